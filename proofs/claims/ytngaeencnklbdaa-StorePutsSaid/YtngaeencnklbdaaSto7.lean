/-
  WHAT IS PROVED HERE: what dropping a key makes of a store, in the program and in the reference. Condition: at most 2^41 items.
-/
import Derived.Test.YtngaeencnklbdaaSto6
import Derived.Deep.RegionHeld3
namespace Go.Proofs.Ytngaeencnklbdaa
open Go.RowKit

theorem OwnI.some_ {w : World} {B n : Nat} {v : Value} {is : List Itm} (h : OwnI w B v n is) (hn : 0 < n) : ∃ g c, v = .slice (some ⟨g, 0, none⟩) n c ∧ n ≤ c ∧ c ≤ maxLen ∧ B ≤ g ∧ g < w.heap.size := by
  rcases h.2 with ⟨_, h0⟩ | ⟨g, cap, cur, rfl, hb, hh, h1, h2, _⟩
  · omega
  · exact ⟨g, cap, rfl, h1, h2, hb, (Array.getElem?_eq_some_iff.1 hh).1⟩
theorem OwnI.low {w : World} {B B' n : Nat} {v : Value} {is : List Itm} (h : OwnI w B v n is) (hB : B' ≤ B) : OwnI w B' v n is := by
  refine ⟨h.1, ?_⟩
  rcases h.2 with h2 | ⟨g, cap, cur, hv, hb, rest⟩
  · exact .inl h2
  · exact .inr ⟨g, cap, cur, hv, Nat.le_trans hB hb, rest⟩
theorem itmsL_set (is : List Itm) (p : Nat) (i : Itm) (hp : p < is.length) : ((((itmsL is).set (p * 3) (.string i.k)).set (p * 3 + 1) (.string i.b)).set (p * 3 + 2) (.int .i64 i.r)) = itmsL (is.set p i) := by
  induction is generalizing p with
  | nil => simp at hp
  | cons x is ih =>
    cases p with
    | zero => simp [itmsL, itmCells]
    | succ p =>
      have h := ih p (by simpa using hp)
      have e : ∀ (a b c v : Value) (l : List Value) (j : Nat), (a :: b :: c :: l).set (j + 3) v = a :: b :: c :: l.set j v := fun _ _ _ _ _ _ => rfl
      unfold itmsL at *
      rw [List.set_cons_succ]
      simp only [List.flatMap_cons, itmCells, List.cons_append, List.nil_append]
      rw [← h, show (p + 1) * 3 = p * 3 + 3 from by omega, e, show p * 3 + 3 + 1 = p * 3 + 1 + 3 from by omega, e, show p * 3 + 3 + 2 = p * 3 + 2 + 3 from by omega, e]
theorem set_same {α : Type} (l : List α) (j : Nat) (x : α) (h : l[j]? = some x) : l.set j x = l := by
  apply List.ext_getElem?
  intro i
  by_cases hij : j = i
  · subst hij
    have hl : j < l.length := (List.getElem?_eq_some_iff.1 h).1
    rw [List.getElem?_set_self hl, h]
  · rw [List.getElem?_set_ne hij]
theorem itmsL_set2 (is : List Itm) (p : Nat) (i : Itm) (hi : is[p]? = some i) (r : Int) : (itmsL is).set (p * 3 + 2) (.int .i64 r) = itmsL (is.set p ⟨i.k, i.b, r⟩) := by
  obtain ⟨c0, c1, _⟩ := itmsL_at is p i hi
  rw [← itmsL_set is p ⟨i.k, i.b, r⟩ (List.getElem?_eq_some_iff.1 hi).1]
  dsimp only
  rw [set_same _ _ _ c0, set_same _ _ _ c1]
theorem withI_set {is : List Itm} (hasc : Asc is) {p : Nat} {i : Itm} {key : ByteArray} (hi : is[p]? = some i) (hk : i.k = key) (r : Int) : withI is key r = is.set p ⟨i.k, i.b, r⟩ := by
  apply List.ext_getElem?
  intro j
  unfold withI
  rw [List.getElem?_map]
  by_cases hpj : p = j
  · subst hpj
    have hl : p < is.length := (List.getElem?_eq_some_iff.1 hi).1
    rw [List.getElem?_set_self hl, hi]
    simp [hk]
  · rw [List.getElem?_set_ne hpj]
    cases hj : is[j]? with
    | none => rfl
    | some x =>
      have hne : x.k ≠ key := by
        rcases Nat.lt_or_ge p j with h | h
        · have := sL_ne (hasc p j i x h hi hj)
          rw [hk] at this
          exact fun e => this e.symm
        · have := sL_ne (hasc j p x i (by omega) hj hi)
          rw [hk] at this
          exact this
      simp [hne]
/-- what dropping a key makes of a store, and the error -/
def dropI (is : List Itm) (key : ByteArray) : List Itm × Int :=
  if rightI is then (if atI is key < 0 then ([], 60) else match is[(atI is key).toNat]? with
    | none => ([], 60)
    | some i => if i.r = 0 then ([], 60) else (withI is key (i.r - 1), 0)) else ([], 1)
def RetD (w : World) (R : List Itm × Int) (e : Ending) (w' : World) : Prop := ∃ v, e = .returned (.tuple #[.agg #[v], .int .i64 R.2]) ∧ OwnI w' w.heap.size v R.1.length R.1 ∧ Below w.heap.size w w'
theorem own_nil (w : World) (B : Nat) : OwnI w B (.slice none 0 0) 0 [] := ⟨rfl, .inl ⟨rfl, rfl⟩⟩
set_option maxRecDepth 100000 in
set_option maxHeartbeats 1600000 in
theorem Drop_any (is : List Itm) (A : Option Addr) (n cap : Nat) (ky : ByteArray) (w : World) {B : Nat} (hm : n ≤ 3518437208800) (h0 : Itms w B A n is) :
    Calls Try.prog 19 #[.agg #[.slice A n cap], .string ky] w (RetD w (dropI is ky)) := by
  have hlen := hid_mk h0.len
  have hb0 : Hid (Below w.heap.size w ((w.alloc (.cells #[.slice A n cap] 24)).alloc (.cells #[.slice none 0 0] 24))) := ((Below.refl _ w).alloc (Nat.le_refl _) _).alloc (by rw [World.size_alloc]; omega) _
  have hX0 : Hid (Blk ((w.alloc (.cells #[.slice A n cap] 24)).alloc (.cells #[.slice none 0 0] 24)) w.heap.size 24 #[.slice A n cap]) := (Blk.new w 24 #[.slice A n cap]).alloc _
  have hR0 : Hid (Blk ((w.alloc (.cells #[.slice A n cap] 24)).alloc (.cells #[.slice none 0 0] 24)) (w.heap.size + 1) 24 #[.slice none 0 0]) := by
    have h1 := Blk.new (w.alloc (.cells #[.slice A n cap] 24)) 24 #[.slice none 0 0]
    rw [World.size_alloc] at h1
    exact h1
  have h1 : Itms ((w.alloc (.cells #[.slice A n cap] 24)).alloc (.cells #[.slice none 0 0] 24)) w.heap.size A n is := h0.top.to hb0.out
  clear h0
  cases hr : rightI is
  · have hE : Hid (dropI is ky = ([], 1)) := by unfold Hid dropI; rw [hr]; rfl
    rw [hE.out]
    replace hr := hid_mk hr
    refine calls_of_wpQ Try.func19 rfl ?_
    intro Q hQ
    simp only [Try.ntmps19, List.size_toArray, List.length_cons, List.length_nil, Nat.reduceAdd, Nat.reduceSub, Array.replicate_succ, Array.replicate_zero, List.push_toArray, List.append_toArray, List.nil_append, List.cons_append]
    go_wp2_with fail
    refine (Right_any is A n cap _ (by omega) h1).mono ?_
    rw [hr.out]
    rintro e w1 ⟨rfl, hb1⟩
    have q1 := hid_mk (after (w := w) hb1 hb0.out).1
    have hR1 := hid_mk (hR0.out.keep hb1)
    have r0 : w1.cell? ⟨w.heap.size + 1, 0, none⟩ = some (.slice none 0 0) := hR1.out.cell 0
    have r1 := hR1.out.frozen 0
    have rl := hR1.out.lt
    clear hb1 h1 hX0 hb0 hR0
    go_wp2
    refine ends_ret hQ (v := .tuple #[.agg #[.slice none 0 0], .int .i64 1]) (by simp [results, Try.results19, go_sem, r0]) rfl ?_
    exact ⟨.slice none 0 0, rfl, own_nil _ _, q1.out.setCell (p := ⟨w.heap.size + 1, 0, none⟩) (by simp) _⟩
  · obtain ⟨hl4, hok, hasc⟩ := rightI_all hr
    have hn4 : n ≤ 4096 := by rw [← hlen.out]; exact hl4
    have hokI : Hid (∀ i ∈ is, 0 ≤ i.r ∧ i.r ≤ 1073741824) := fun i hi => by have := itmOk_size (hok i hi); omega
    obtain ⟨E, hE⟩ : ∃ E, dropI is ky = E := ⟨_, rfl⟩
    have hE2 : Hid (E = ((if atI is ky < 0 then ([], 60) else match is[(atI is ky).toNat]? with
      | none => ([], 60)
      | some i => if i.r = 0 then ([], 60) else (withI is ky (i.r - 1), 0)) : List Itm × Int)) := by rw [Hid, ← hE]; unfold dropI; rw [hr]; rfl
    rw [hE]
    replace hE := hid_mk hE
    replace hr := hid_mk hr
    replace hasc := hid_mk hasc
    clear hl4 hok
    refine calls_of_wpQ Try.func19 rfl ?_
    intro Q hQ
    simp only [Try.ntmps19, List.size_toArray, List.length_cons, List.length_nil, Nat.reduceAdd, Nat.reduceSub, Array.replicate_succ, Array.replicate_zero, List.push_toArray, List.append_toArray, List.nil_append, List.cons_append]
    go_wp2_with fail
    refine (Right_any is A n cap _ (by omega) h1).mono ?_
    rw [hr.out]
    rintro e w1 ⟨rfl, hb1⟩
    have q1 := hid_mk (after (w := w) hb1 hb0.out).1
    have hR1 := hid_mk (hR0.out.keep hb1)
    have hX1 := hid_mk (hX0.out.keep hb1)
    have x0 : w1.cell? ⟨w.heap.size, 0, none⟩ = some (.slice A n cap) := hX1.out.cell 0
    have xl := hX1.out.lt
    have h2 : Itms w1 w1.heap.size A n is := (h1.to hb1).top
    clear hb1 h1 hX0 hb0 hR0
    go_wp2_with fail
    refine (find_any is A n cap ky _ (by omega) h2 hasc.out).mono ?_
    rintro e w2 ⟨p, hcut, rfl, hb2⟩
    have q2 := hid_mk (after (w := w) hb2 q1.out).1
    have hR2 := hid_mk (hR1.out.keep hb2)
    have hX2 := hid_mk (hX1.out.keep hb2)
    have x2 : w2.cell? ⟨w.heap.size, 0, none⟩ = some (.slice A n cap) := hX2.out.cell 0
    have xl2 := hX2.out.lt
    have r0 : w2.cell? ⟨w.heap.size + 1, 0, none⟩ = some (.slice none 0 0) := hR2.out.cell 0
    have r1 := hR2.out.frozen 0
    have rl := hR2.out.lt
    have h3 : Itms w2 w2.heap.size A n is := (h2.to hb2).top
    have hat := cut_at hcut hasc.out
    replace hcut := hid_mk hcut
    clear hb2 x0 xl h2 hR1 hX1
    by_cases hf : (is[p]?).map (·.k) = some ky
    · rw [if_pos hf] at hat
      have hpn : p < n := by
        rw [← hlen.out]
        rcases Nat.lt_or_ge p is.length with h | h
        · exact h
        · rw [List.getElem?_eq_none h] at hf; cases hf
      obtain ⟨b, o, i, rfl, hbl, hik, c0, c1, c2⟩ := h3.at_ hpn
      rw [hat, if_neg (by omega), Int.toNat_natCast, hik] at hE2
      have hri := hokI.out i (List.mem_of_getElem? hik)
      have hki : i.k = ky := by rw [hik] at hf; simpa using hf
      have hws := withI_set hasc.out hik hki (i.r - 1)
      have hst := itmsL_set2 is p i hik (i.r - 1)
      obtain ⟨K, Bd, rf⟩ := i
      dsimp only at c0 c1 c2 hE2 hri hws hst
      have hd : Hid (decide ((is[p]?).map (·.k) = some ky) = true) := decide_eq_true hf
      rw [hd.out]
      have p0 : (0 : Int) ≤ p := by omega
      have p1 : (p : Int) < n := by omega
      have hitm2 := (itmsL_at is p ⟨K, Bd, rf⟩ hik).2.2
      dsimp only at hitm2
      replace hik := hid_mk hik
      replace hat := hid_mk hat
      replace hf := hid_mk hf
      replace hki := hid_mk hki
      replace hws := hid_mk hws
      replace hst := hid_mk hst
      replace hitm2 := hid_mk hitm2
      have hI3 := hid_mk h3
      by_cases hr0 : rf = 0
      · subst hr0
        have hE4 : E = ([], 60) := by have h := hE2.out; simpa using h
        subst hE4
        clear hE2
        go_wp2
        refine ends_ret hQ (v := .tuple #[.agg #[.slice none 0 0], .int .i64 60]) (by simp [results, Try.results19, go_sem, r0]) rfl ?_
        exact ⟨.slice none 0 0, rfl, own_nil _ _, q2.out.setCell (p := ⟨w.heap.size + 1, 0, none⟩) (by simp) _⟩
      · have hE4 : E = (is.set p ⟨K, Bd, rf - 1⟩, 0) := by have h := hE2.out; rw [if_neg hr0, hws.out] at h; exact h
        subst hE4
        clear hE2
        have hrz : (rf == 0) = false := by simpa using hr0
        have hrw : IntKind.i64.wrap (rf - 1) = rf - 1 := IntWalk.i64_in _ (by omega)
        go_wp2_with fail
        refine (Clone_any is (some ⟨b, o, none⟩) n cap _ hm hI3.out).mono ?_
        rintro e w3 ⟨v3, rfl, own3, hb3⟩
        obtain ⟨g, c3, rfl, hc3, _, hgB, hgl⟩ := own3.some_ (by omega)
        have q3 := hid_mk (after (w := w) hb3 q2.out).1
        have hR3 := hid_mk (hR2.out.keep hb3)
        have hgne := own_ne own3 hR3.out
        have hgne' : w.heap.size + 1 ≠ g := by simpa [Value.ownBlock] using hgne
        have d2 : w3.cell? ⟨g, p * 3 + 2, none⟩ = some (.int .i64 rf) := (World.ownsRow.cellAt own3 (p * 3 + 2) (by omega)).trans hitm2.out
        have f2 : w3.frozen? ⟨g, p * 3 + 2, none⟩ = false := World.ownsRow.frozenAt own3 (p * 3 + 2)
        have hsto := (World.ownsRow.stored own3 (p * 3 + 2) (.int .i64 (rf - 1))).1
        rw [hst.out] at hsto
        have hR4 : Hid (Blk (w3.setCell ⟨g, p * 3 + 2, none⟩ (.int .i64 (rf - 1))) (w.heap.size + 1) 24 #[.slice none 0 0]) := hR3.out.far (by simpa using hgne') _
        have s0 : (w3.setCell ⟨g, p * 3 + 2, none⟩ (.int .i64 (rf - 1))).cell? ⟨w.heap.size + 1, 0, none⟩ = some (.slice none 0 0) := hR4.out.cell 0
        have s1 := hR4.out.frozen 0
        have sl := hR4.out.lt
        have own5 : OwnI ((w3.setCell ⟨g, p * 3 + 2, none⟩ (.int .i64 (rf - 1))).setCell ⟨w.heap.size + 1, 0, none⟩ (.slice (some ⟨g, 0, none⟩) n c3)) w2.heap.size (.slice (some ⟨g, 0, none⟩) n c3) n (is.set p ⟨K, Bd, rf - 1⟩) := own_far hsto hR4.out (by decide) 0 _
        have q5 : Below w.heap.size w ((w3.setCell ⟨g, p * 3 + 2, none⟩ (.int .i64 (rf - 1))).setCell ⟨w.heap.size + 1, 0, none⟩ (.slice (some ⟨g, 0, none⟩) n c3)) := (q3.out.setCell (p := ⟨g, p * 3 + 2, none⟩) (by have := q2.out.size; simp; omega) _).setCell (p := ⟨w.heap.size + 1, 0, none⟩) (by simp) _
        have hw2 := q2.out.size
        replace own5 := hid_mk own5
        replace q5 := hid_mk q5
        clear hb3 own3 hsto hgne x2 xl2 r0 r1 rl
        go_wp2
        refine ends_ret hQ (v := .tuple #[.agg #[.slice (some ⟨g, 0, none⟩) n c3], .int .i64 0]) (by simp [results, Try.results19, go_sem, s0]) rfl ?_
        refine ⟨.slice (some ⟨g, 0, none⟩) n c3, rfl, ?_, q5.out⟩
        have hl : (is.set p ⟨K, Bd, rf - 1⟩).length = n := by rw [List.length_set]; exact hlen.out
        dsimp only
        rw [hl]
        exact OwnI.low own5.out hw2
    · rw [if_neg hf] at hat
      have hE4 : E = ([], 60) := by rw [hE2.out, hat]; rfl
      subst hE4
      have hd : Hid (decide ((is[p]?).map (·.k) = some ky) = false) := decide_eq_false hf
      rw [hd.out]
      replace hat := hid_mk hat
      replace hf := hid_mk hf
      clear hE2
      go_wp2
      refine ends_ret hQ (v := .tuple #[.agg #[.slice none 0 0], .int .i64 60]) (by simp [results, Try.results19, go_sem, r0]) rfl ?_
      exact ⟨.slice none 0 0, rfl, own_nil _ _, q2.out.setCell (p := ⟨w.heap.size + 1, 0, none⟩) (by simp) _⟩
theorem atI_lt_ (is : List Itm) (key : ByteArray) : -1 ≤ atI is key ∧ atI is key < is.length ∨ (atI is key = -1) := by
  have h : ∀ (l : List Itm) (k : Nat), atF key l k = -1 ∨ ((k : Int) ≤ atF key l k ∧ atF key l k < (k + l.length : Nat)) := by
    intro l
    induction l with
    | nil => intro k; left; rfl
    | cons x l ih =>
      intro k
      rw [atF]
      split
      · right; simp; omega
      · rcases ih (k + 1) with h | h
        · left; exact h
        · right; simp at h ⊢; omega
  rcases h is 0 with h | h
  · right; exact h
  · left; unfold atI; simp at h; omega
set_option maxRecDepth 100000 in
set_option maxHeartbeats 1600000 in
theorem RDrop_any (is : List Itm) (A : Option Addr) (n cap : Nat) (ky : ByteArray) (w : World) {B : Nat} (hm : n ≤ 3518437208800) (h0 : Itms w B A n is) :
    Calls Try.prog 20 #[.agg #[.slice A n cap], .string ky] w (RetD w (dropI is ky)) := by
  have hlen := hid_mk h0.len
  have hb0 : Hid (Below w.heap.size w ((w.alloc (.cells #[.slice A n cap] 24)).alloc (.cells #[.slice none 0 0] 24))) := ((Below.refl _ w).alloc (Nat.le_refl _) _).alloc (by rw [World.size_alloc]; omega) _
  have hX0 : Hid (Blk ((w.alloc (.cells #[.slice A n cap] 24)).alloc (.cells #[.slice none 0 0] 24)) w.heap.size 24 #[.slice A n cap]) := (Blk.new w 24 #[.slice A n cap]).alloc _
  have hR0 : Hid (Blk ((w.alloc (.cells #[.slice A n cap] 24)).alloc (.cells #[.slice none 0 0] 24)) (w.heap.size + 1) 24 #[.slice none 0 0]) := by
    have h1 := Blk.new (w.alloc (.cells #[.slice A n cap] 24)) 24 #[.slice none 0 0]
    rw [World.size_alloc] at h1
    exact h1
  have h1 : Itms ((w.alloc (.cells #[.slice A n cap] 24)).alloc (.cells #[.slice none 0 0] 24)) w.heap.size A n is := h0.top.to hb0.out
  have hAb : Hid (∀ b o, A = some ⟨b, o, none⟩ → 0 < n → b < w.heap.size) := by
    intro b o e hn
    obtain ⟨b2, o2, ea, hlt, _⟩ := h0.top.2 hn
    rw [e] at ea; injection ea with ea; injection ea with ea; omega
  clear h0
  cases hr : rightI is
  · have hE : Hid (dropI is ky = ([], 1)) := by unfold Hid dropI; rw [hr]; rfl
    rw [hE.out]
    replace hr := hid_mk hr
    refine calls_of_wpQ Try.func20 rfl ?_
    intro Q hQ
    simp only [Try.ntmps20, List.size_toArray, List.length_cons, List.length_nil, Nat.reduceAdd, Nat.reduceSub, Array.replicate_succ, Array.replicate_zero, List.push_toArray, List.append_toArray, List.nil_append, List.cons_append]
    go_wp2_with fail
    refine (RRight_any is A n cap _ (by omega) h1).mono ?_
    rw [hr.out]
    rintro e w1 ⟨rfl, hb1⟩
    have q1 := hid_mk (after (w := w) hb1 hb0.out).1
    have hR1 := hid_mk (hR0.out.keep hb1)
    have r0 : w1.cell? ⟨w.heap.size + 1, 0, none⟩ = some (.slice none 0 0) := hR1.out.cell 0
    have r1 := hR1.out.frozen 0
    have rl := hR1.out.lt
    clear hb1 h1 hX0 hb0 hR0
    go_wp2
    refine ends_ret hQ (v := .tuple #[.agg #[.slice none 0 0], .int .i64 1]) (by simp [results, Try.results20, go_sem, r0]) rfl ?_
    exact ⟨.slice none 0 0, rfl, own_nil _ _, q1.out.setCell (p := ⟨w.heap.size + 1, 0, none⟩) (by simp) _⟩
  · obtain ⟨hl4, hok, hasc⟩ := rightI_all hr
    have hn4 : n ≤ 4096 := by rw [← hlen.out]; exact hl4
    have hokI : Hid (∀ i ∈ is, 0 ≤ i.r ∧ i.r ≤ 1073741824) := fun i hi => by have := itmOk_size (hok i hi); omega
    obtain ⟨E, hE⟩ : ∃ E, dropI is ky = E := ⟨_, rfl⟩
    have hE2 : Hid (E = ((if atI is ky < 0 then ([], 60) else match is[(atI is ky).toNat]? with
      | none => ([], 60)
      | some i => if i.r = 0 then ([], 60) else (withI is ky (i.r - 1), 0)) : List Itm × Int)) := by rw [Hid, ← hE]; unfold dropI; rw [hr]; rfl
    rw [hE]
    replace hE := hid_mk hE
    replace hr := hid_mk hr
    replace hasc := hid_mk hasc
    clear hl4 hok
    refine calls_of_wpQ Try.func20 rfl ?_
    intro Q hQ
    simp only [Try.ntmps20, List.size_toArray, List.length_cons, List.length_nil, Nat.reduceAdd, Nat.reduceSub, Array.replicate_succ, Array.replicate_zero, List.push_toArray, List.append_toArray, List.nil_append, List.cons_append]
    go_wp2_with fail
    refine (RRight_any is A n cap _ (by omega) h1).mono ?_
    rw [hr.out]
    rintro e w1 ⟨rfl, hb1⟩
    have q1 := hid_mk (after (w := w) hb1 hb0.out).1
    have hR1 := hid_mk (hR0.out.keep hb1)
    have hX1 := hid_mk (hX0.out.keep hb1)
    have x0 : w1.cell? ⟨w.heap.size, 0, none⟩ = some (.slice A n cap) := hX1.out.cell 0
    have xl := hX1.out.lt
    have h2 : Itms w1 w1.heap.size A n is := (h1.to hb1).top
    clear hb1 h1 hX0 hb0 hR0
    go_wp2_with fail
    refine (At_any is A n cap ky _ (by omega) h2).mono ?_
    obtain ⟨at_, hat⟩ : ∃ a, atI is ky = a := ⟨_, rfl⟩
    have hal := atI_lt_ is ky
    rw [hat] at hE2 hal
    rw [hlen.out] at hal
    rw [hat]
    rintro e w2 ⟨rfl, hb2⟩
    have q2 := hid_mk (after (w := w) hb2 q1.out).1
    have hR2 := hid_mk (hR1.out.keep hb2)
    have hX2 := hid_mk (hX1.out.keep hb2)
    have x2 : w2.cell? ⟨w.heap.size, 0, none⟩ = some (.slice A n cap) := hX2.out.cell 0
    have xl2 := hX2.out.lt
    have r0 : w2.cell? ⟨w.heap.size + 1, 0, none⟩ = some (.slice none 0 0) := hR2.out.cell 0
    have r1 := hR2.out.frozen 0
    have rl := hR2.out.lt
    have h3 : Itms w2 w2.heap.size A n is := (h2.to hb2).top
    replace hat := hid_mk hat
    clear hb2 x0 xl h2 hR1 hX1
    by_cases hneg : at_ < 0
    · have hE4 : E = ([], 60) := by rw [hE2.out, if_pos hneg]
      subst hE4
      have hd : decide (at_ < 0) = true := decide_eq_true hneg
      clear hE2
      go_wp2
      refine ends_ret hQ (v := .tuple #[.agg #[.slice none 0 0], .int .i64 60]) (by simp [results, Try.results20, go_sem, r0]) rfl ?_
      exact ⟨.slice none 0 0, rfl, own_nil _ _, q2.out.setCell (p := ⟨w.heap.size + 1, 0, none⟩) (by simp) _⟩
    · obtain ⟨p, rfl⟩ := Int.eq_ofNat_of_zero_le (show 0 ≤ at_ by omega)
      have hpn : p < n := by omega
      obtain ⟨b, o, i, rfl, hbl, hik, c0, c1, c2⟩ := h3.at_ hpn
      rw [if_neg hneg, Int.toNat_natCast, hik] at hE2
      have hri := hokI.out i (List.mem_of_getElem? hik)
      obtain ⟨K, Bd, rf⟩ := i
      dsimp only at c0 c1 c2 hE2 hri
      have hd : decide ((p : Int) < 0) = false := decide_eq_false hneg
      have p0 : (0 : Int) ≤ p := by omega
      have p1 : (p : Int) < n := by omega
      replace hik := hid_mk hik
      have hI3 := hid_mk h3
      clear hal
      by_cases hr0 : rf = 0
      · subst hr0
        have hE4 : E = ([], 60) := by have h := hE2.out; simpa using h
        subst hE4
        clear hE2
        go_wp2
        refine ends_ret hQ (v := .tuple #[.agg #[.slice none 0 0], .int .i64 60]) (by simp [results, Try.results20, go_sem, r0]) rfl ?_
        exact ⟨.slice none 0 0, rfl, own_nil _ _, q2.out.setCell (p := ⟨w.heap.size + 1, 0, none⟩) (by simp) _⟩
      · have hE4 : E = (withI is ky (rf - 1), 0) := by have h := hE2.out; rw [if_neg hr0] at h; exact h
        subst hE4
        clear hE2
        have hrz : (rf == 0) = false := by simpa using hr0
        have hrw : IntKind.i64.wrap (rf - 1) = rf - 1 := IntWalk.i64_in _ (by omega)
        obtain ⟨wI, hwI⟩ : ∃ l, withI is ky (rf - 1) = l := ⟨_, rfl⟩
        replace hwI := hid_mk hwI
        have c2' := hid_mk c2
        have hbl' := hid_mk hbl
        have hw2 := q2.out.size
        have hbw := hAb.out b o rfl (by omega)
        have hbn1 : ¬ (b = w.heap.size + 1) := by omega
        have hbn2 : ¬ (w.heap.size + 1 = b) := by omega
        have hbn3 : w.heap.size + 1 ≠ b := by omega
        go_wp2_with fail
        go_region_held3 (fun w' => w'.cell? ⟨w.heap.size, 0, none⟩ = some (.slice (some ⟨b, o, none⟩) n cap) ∧ w'.cell? ⟨b, o + p * 3 + 2, none⟩ = some (.int .i64 rf)) ((first | (refine ⟨?_, ?_⟩ <;> assumption) | go_keep)) ((go_at_call 30; refine (with_any is (some ⟨b, o, none⟩) n cap ky (rf - 1) _ hm (Itms.to hI3.out (by go_grown))).mono ?_; rw [hwI.out]; rintro e w5 ⟨v5, rfl, own5, hb5⟩; have k5 := (after hb5 (show Below w2.heap.size w2 _ by go_grown)).1; have q5 := (after (w := w) k5 q2.out).1; obtain ⟨A5, c5, rfl, _, _⟩ := own_slice own5; have hR5 := hid_mk (hR2.out.keep k5); have s0 : w5.cell? ⟨w.heap.size + 1, 0, none⟩ = some (.slice none 0 0) := hR5.out.cell 0; have s1 := hR5.out.frozen 0; have sl := hR5.out.lt; have x5 : w5.cell? ⟨w.heap.size, 0, none⟩ = some (.slice (some ⟨b, o, none⟩) n cap) := (hX2.out.keep k5).cell 0; have d5 : w5.cell? ⟨b, o + p * 3 + 2, none⟩ = some (.int .i64 rf) := ((bcell k5).1 _ _ hbl'.out).trans c2'.out; clear hb5 k5))
        go_wp2
        refine ends_ret hQ (v := .tuple #[.agg #[.slice A5 wI.length c5], .int .i64 0]) (by simp [results, Try.results20, go_sem, s0]) rfl ?_
        refine ⟨.slice A5 wI.length c5, rfl, ?_, q5.setCell (p := ⟨w.heap.size + 1, 0, none⟩) (by simp) _⟩
        dsimp only
        rw [hwI.out]
        exact OwnI.low (own_far own5 hR5.out (by decide) 0 _) hw2
end Go.Proofs.Ytngaeencnklbdaa
