/-
  WHAT IS PROVED HERE: the plain function that journal.Merge computes, what upTo hands back, small lemmas on readings. Conditions: slices of at most 2^47 records.
  WHAT IS PROVED HERE: what the reference's Merge hands back where it refuses or the records do not fit. Conditions: slices of at most 2^40 records.
  WHAT IS PROVED HERE: plain laws of the function that journal.Merge computes: what stands at each place behind a merge that fits, that merging again changes nothing, that two logs come together, that a compacted log merges like the whole one. No program in sight. No condition.
  WHAT IS PROVED HERE: plain laws of the function that journal.Merge computes: two logs that part behind a place come together (P15.5), a compacted log merges like the whole one (P15.3). No program in sight. No condition.
-/
import Derived.Test.YtncdjmpdbinanaaGreatDoorYGKj1
import Derived.Test.YtncdjmpdbinanaaGreatDoorYGJrn
import Derived.Deep.RegionLawGrows
namespace Go.Proofs.YtncdjmpdbinanaaGreatDoor
open Go.RowKit

/-- the first that is not there -/
def fdJ (l : Lg) (at' : Int) (i : Nat) : List Rec → Option Nat
  | [] => none
  | r :: rs => if at' + 1 + i ≤ l.base ∨ termJ l (at' + 1 + i) = some r.t then fdJ l at' (i + 1) rs else some i
structure Mg where
  l : Lg
  n : Int
  f : Bool
  e : Int
def mergeJ (l : Lg) (at' term : Int) (more : List Rec) : Mg :=
  if rightJ l && rightJ ⟨at', term, more⟩ then
    if l.base ≤ at' ∧ termJ l at' ≠ some term then ⟨l, min (lastJ l) (at' - 1), false, 0⟩
    else match fdJ l at' 0 more with
      | none => ⟨l, max l.base (at' + more.length), true, 0⟩
      | some i =>
        let rs := l.rs.take (at' + i - l.base).toNat ++ more.drop i
        if 200 < rs.length then ⟨zeroL, 0, false, 130⟩
        else if rightJ ⟨l.base, l.bt, rs⟩ then ⟨⟨l.base, l.bt, rs⟩, max l.base (at' + more.length), true, 0⟩
        else ⟨zeroL, 0, false, 1⟩
  else ⟨zeroL, 0, false, 1⟩
set_option maxRecDepth 100000 in
theorem mergeJ_fits {l : Lg} {at' term : Int} {more : List Rec} (hr : rightJ l = true) (hr2 : rightJ ⟨at', term, more⟩ = true) (ga : ¬ (l.base ≤ at' ∧ termJ l at' ≠ some term)) :
    mergeJ l at' term more = (match fdJ l at' 0 more with
      | none => ⟨l, max l.base (at' + more.length), true, 0⟩
      | some i =>
        let rs := l.rs.take (at' + i - l.base).toNat ++ more.drop i
        if 200 < rs.length then ⟨zeroL, 0, false, 130⟩
        else if rightJ ⟨l.base, l.bt, rs⟩ then ⟨⟨l.base, l.bt, rs⟩, max l.base (at' + more.length), true, 0⟩
        else ⟨zeroL, 0, false, 1⟩ : Mg) := by unfold mergeJ; rw [hr, hr2]; simp only [Bool.and_self, if_true]; rw [if_neg ga]
set_option maxRecDepth 100000 in
theorem reads_cells {w : World} {B size n : Nat} {e : TypeId} {A : Option Addr} {xs : List Value} (h : Reads w B e size A n xs) : ∀ b, A = some b → ∀ j u, xs[j]? = some u → w.cell? (b.add j) = some u := by
  intro b hb j u hu
  rcases Nat.eq_zero_or_pos n with h0 | h0
  · subst h0
    have hx : xs = [] := List.eq_nil_of_length_eq_zero (by simpa using h.1)
    subst hx
    simp at hu
  · obtain ⟨b', o, e, _, _, hc⟩ := h.2 h0
    rw [hb] at e
    injection e with e
    subst e
    rw [add_plain]
    exact hc j u hu
set_option maxRecDepth 100000 in
theorem reads_none {w : World} {B size n : Nat} {e : TypeId} {A : Option Addr} {xs : List Value} (h : Reads w B e size A n xs) : A = none → n = 0 := by
  rintro rfl
  rcases Nat.eq_zero_or_pos n with h0 | h0
  · exact h0
  · obtain ⟨_, _, e, _⟩ := h.2 h0
    cases e
def RetMg (B : Nat) (w : World) (m : Mg) (e : Ending) (w' : World) : Prop :=
  ∃ A n cap, e = .returned (.tuple #[logV m.l A n cap, .int .i64 m.n, .bool m.f, .int .i64 m.e]) ∧ Recs w' B A n m.l.rs ∧ n ≤ cap ∧ cap ≤ maxLen ∧ Below w.heap.size w w'
set_option maxRecDepth 100000 in
theorem run_slice_upto3 {P : Program} (w : World) (t e : TypeId) (ht : P.underlying t = some (.slice e)) (i : TypeInfo) (hi : P.info? e = some i) (A : Option Addr) (n cap : Nat) (x : Int) (h0 : 0 ≤ x) (h1 : x ≤ cap) :
    (Instr.slice t (.slice A n cap) none (some (.int .i64 x)) (some (.int .i64 x))).run P w = .ok (.slice A x.toNat x.toNat) w := by
  simp [Instr.slice, Instr.sliceBounds, run_underlying ht, sizeOf, typeInfo, hi, go_sem, h0, h1]
  intro h; omega
set_option maxRecDepth 100000 in
set_option maxHeartbeats 400000 in
theorem upTo_any (l : Lg) (at' : Int) (A : Option Addr) (n cap : Nat) (w : World) (hm : n ≤ 140737488355328) (hcap : n ≤ cap) (h0 : 0 ≤ l.base) (hb : l.base ≤ 1073741824) (h1 : l.base ≤ at') (h2 : at' ≤ l.base + n) :
    Calls Tryz.prog 136 #[logV l A n cap, .int .i64 at'] w fun e w' => e = .returned (.slice A (at' - l.base).toNat (at' - l.base).toNat) ∧ Below w.heap.size w w' := by
  obtain ⟨i0, hi0, hz0, hz1, hz2⟩ := info_parts recInfo
  have e1 := fun w => run_slice_upto3 (P := Tryz.prog) w 22 51 Tryz.underlying22 i0 hi0 A n cap (at' - l.base) (by omega) (by omega)
  obtain ⟨base, bt, rs⟩ := l
  unfold logV
  dsimp only at *
  clear hi0 hz0 hz1 hz2
  go_enter Tryz.func136, Tryz.ntmps136
  go_wp2
  go_ret
  exact ⟨rfl, by go_grown⟩
set_option maxRecDepth 100000 in
theorem recs_append {w : World} {B n : Nat} {A : Option Addr} {xs ys : List Rec} (h : Reads w B 51 3 A n (cellsOf xs ++ cellsOf ys)) : Recs w B A n (xs ++ ys) := by
  unfold Recs cellsOf at *
  rw [List.flatMap_append]
  exact h
end Go.Proofs.YtncdjmpdbinanaaGreatDoor
namespace Go.Proofs.YtncdjmpdbinanaaGreatDoor
open Go.RowKit

/-- what the reference's merge hands back -/
def RetMgR (B : Nat) (w : World) (m : Mg) (e : Ending) (w' : World) : Prop :=
  ∃ A n cap, e = .returned (.tuple #[logV m.l A n cap, .int .i64 m.n, .bool m.f, .int .i64 m.e]) ∧ Recs w' B A n m.l.rs ∧ n ≤ cap ∧ Below w.heap.size w w'

set_option maxRecDepth 100000 in
theorem recs_pos : ∀ {rs : List Rec} {t : Int}, 1 ≤ t → okRecs t rs = true → ∀ r ∈ rs, 1 ≤ r.t
  | [], _, _, _, r, hr => absurd hr (List.not_mem_nil)
  | x :: xs, t, ht, h, r, hr => by
    unfold okRecs inB at h
    split at h
    · rename_i hc
      simp only [Bool.and_eq_true, decide_eq_true_eq] at hc
      rcases List.mem_cons.1 hr with rfl | hr
      · omega
      · exact recs_pos (by omega) h r hr
    · cases h
set_option maxRecDepth 100000 in
theorem right_pos {l : Lg} (h : rightJ l = true) : ∀ r ∈ l.rs, 1 ≤ r.t := by
  unfold rightJ at h
  simp only [Bool.and_eq_true] at h
  exact recs_pos (by omega) h.2
set_option maxRecDepth 100000 in
set_option maxRecDepth 100000 in
set_option maxHeartbeats 3200000 in
theorem refMerge_no (l : Lg) (at' term : Int) (more : List Rec) (A : Option Addr) (n cap : Nat) (A' : Option Addr) (n' cap' : Nat) (w : World) {B : Nat} (hB : B ≤ w.heap.size) (hm : n ≤ 4398046511103) (hm' : n' ≤ 4398046511103) (hcap : n ≤ cap) (_hcap' : n' ≤ cap') (h : Recs w B A n l.rs) (h' : Recs w B A' n' more) (ga0 : ¬ ((rightJ l && rightJ ⟨at', term, more⟩) = true ∧ ¬ (l.base ≤ at' ∧ termJ l at' ≠ some term))) :
    Calls Tryz.prog 99 #[logV l A n cap, .int .i64 at', .int .i64 term, .slice A' n' cap'] w (RetMgR B w (mergeJ l at' term more)) := by
  have hlen := hid_mk h.len
  have hlen' := hid_mk h'.len
  have hX0 := Blk.new w 24 #[.int .i64 l.base, .int .i64 l.bt, .slice A n cap]
  have hY0 := Blk.new (w.alloc (.cells #[.int .i64 l.base, .int .i64 l.bt, .slice A n cap] 24)) 24 #[.int .i64 0, .int .i64 0, .slice none 0 0]
  have hN0 := Blk.new ((w.alloc (.cells #[.int .i64 l.base, .int .i64 l.bt, .slice A n cap] 24)).alloc (.cells #[.int .i64 0, .int .i64 0, .slice none 0 0] 24)) 24 #[.int .i64 0, .int .i64 0, .slice none 0 0]
  simp only [World.size_alloc] at hY0 hN0
  have hX := hid_mk ((hX0.alloc (.cells #[.int .i64 0, .int .i64 0, .slice none 0 0] 24)).alloc (.cells #[.int .i64 0, .int .i64 0, .slice none 0 0] 24))
  have hY := hid_mk (hY0.alloc (.cells #[.int .i64 0, .int .i64 0, .slice none 0 0] 24))
  have hN := hid_mk (hN0)
  clear hX0 hY0 hN0
  cases hr : rightJ l
  · have hz : Hid (mergeJ l at' term more = ⟨zeroL, 0, false, 1⟩) := by unfold Hid mergeJ; rw [hr]; rfl
    replace hr := hid_mk hr
    rw [logV_eq]
    refine calls_of_wpQ Tryz.func99 rfl ?_
    intro Q hQ
    simp only [Tryz.ntmps99, List.size_toArray, List.length_cons, List.length_nil, Nat.reduceAdd, Nat.reduceSub, Array.replicate_succ, Array.replicate_zero, List.push_toArray, List.append_toArray, List.nil_append, List.cons_append]
    go_wp2_with fail
    try rw [← logV_eq]
    refine (refRight_any l _ _ _ _ (by omega) (h.to (by go_grown))).mono ?_
    rw [hr.out]
    rintro e w1 ⟨rfl, hb⟩
    have q1 := (after (w := w) hb (by go_grown)).1
    replace hX := hid_mk (hX.out.keep (after hb (by go_grown)).1)
    replace hY := hid_mk (hY.out.keep (after hb (by go_grown)).1)
    replace hN := hid_mk (hN.out.keep (after hb (by go_grown)).1)
    have hs1 := hb.size; try simp only [World.size_alloc] at hs1; clear hb
    obtain ⟨hgy, y0, y1, y2, e0, e1, e2⟩ := blk3f hY.out
    obtain ⟨hgn, n0, n1, n2⟩ := blk3 hN.out
    go_wp2
    try simp only [Exit.inBlock, Exit.then]
    refine ends_ret hQ (v := .tuple #[.agg #[.int .i64 0, .int .i64 0, .slice none 0 0], .int .i64 0, .bool false, .int .i64 1]) (by simp [results, Tryz.results99, go_sem, y0, y1, y2]) rfl ?_
    rw [hz.out]
    exact ⟨none, 0, 0, rfl, Reads.none_, Nat.le_refl _, set3_below _ _ _ q1 (by simp)⟩
  have hbd := right_bounds hr
  cases hr2 : rightJ ⟨at', term, more⟩
  · have hz : Hid (mergeJ l at' term more = ⟨zeroL, 0, false, 1⟩) := by unfold Hid mergeJ; rw [hr, hr2]; rfl
    replace hr := hid_mk hr
    replace hr2 := hid_mk hr2
    rw [logV_eq]
    refine calls_of_wpQ Tryz.func99 rfl ?_
    intro Q hQ
    simp only [Tryz.ntmps99, List.size_toArray, List.length_cons, List.length_nil, Nat.reduceAdd, Nat.reduceSub, Array.replicate_succ, Array.replicate_zero, List.push_toArray, List.append_toArray, List.nil_append, List.cons_append]
    go_wp2_with fail
    try rw [← logV_eq]
    refine (refRight_any l _ _ _ _ (by omega) (h.to (by go_grown))).mono ?_
    rw [hr.out]
    rintro e w1 ⟨rfl, hb⟩
    have q1 := (after (w := w) hb (by go_grown)).1
    replace hX := hid_mk (hX.out.keep (after hb (by go_grown)).1)
    replace hY := hid_mk (hY.out.keep (after hb (by go_grown)).1)
    replace hN := hid_mk (hN.out.keep (after hb (by go_grown)).1)
    have hs1 := hb.size; try simp only [World.size_alloc] at hs1; clear hb
    go_wp2_with fail
    rw [logV_mk at' term more]
    refine (refRight_any ⟨at', term, more⟩ _ _ _ _ (by omega) (h'.to (by go_grown))).mono ?_
    rw [hr2.out]
    rintro e w2 ⟨rfl, hb⟩
    have q2 := (after (w := w) hb (by go_grown)).1
    replace hX := hid_mk (hX.out.keep (after hb (by go_grown)).1)
    replace hY := hid_mk (hY.out.keep (after hb (by go_grown)).1)
    replace hN := hid_mk (hN.out.keep (after hb (by go_grown)).1)
    have hs2 := hb.size; try simp only [World.size_alloc] at hs2; clear hb
    obtain ⟨hgy, y0, y1, y2, e0, e1, e2⟩ := blk3f hY.out
    obtain ⟨hgn, n0, n1, n2⟩ := blk3 hN.out
    go_wp2
    try simp only [Exit.inBlock, Exit.then]
    refine ends_ret hQ (v := .tuple #[.agg #[.int .i64 0, .int .i64 0, .slice none 0 0], .int .i64 0, .bool false, .int .i64 1]) (by simp [results, Tryz.results99, go_sem, y0, y1, y2]) rfl ?_
    rw [hz.out]
    exact ⟨none, 0, 0, rfl, Reads.none_, Nat.le_refl _, set3_below _ _ _ q2 (by simp)⟩
  have hbd2 := right_bounds hr2
  dsimp only at hbd2
  have hln := hlen.out
  have hln' := hlen'.out
  have hn200 : n ≤ 200 := by omega
  have hn200' : n' ≤ 200 := by omega
  have ga : l.base ≤ at' ∧ termJ l at' ≠ some term := Classical.byContradiction fun e => ga0 ⟨by rw [hr, hr2]; rfl, e⟩
  clear ga0
  have hz : Hid (mergeJ l at' term more = ⟨l, min (lastJ l) (at' - 1), false, 0⟩) := by unfold Hid mergeJ; rw [hr, hr2]; simp [ga]
  obtain ⟨mg, hmg⟩ : ∃ mg, mergeJ l at' term more = mg := ⟨_, rfl⟩
  rw [hmg]
  replace hz := hid_mk (hmg.symm.trans hz.out)
  clear hmg
  obtain ⟨ga1, ga2⟩ := ga
  have hla : Hid (lastJ l = l.base + n) := by unfold Hid lastJ; rw [hln]
  have hw1 : IntKind.i64.wrap (at' - 1) = at' - 1 := IntWalk.i64_in _ (by omega)
  clear hln hln'
  by_cases g1 : l.base + n < at'
  · skip
    clear ga2
    replace hr := hid_mk hr
    replace hr2 := hid_mk hr2
    rw [logV_eq]
    refine calls_of_wpQ Tryz.func99 rfl ?_
    intro Q hQ
    simp only [Tryz.ntmps99, List.size_toArray, List.length_cons, List.length_nil, Nat.reduceAdd, Nat.reduceSub, Array.replicate_succ, Array.replicate_zero, List.push_toArray, List.append_toArray, List.nil_append, List.cons_append]
    go_wp2_with fail
    try rw [← logV_eq]
    refine (refRight_any l _ _ _ _ (by omega) (h.to (by go_grown))).mono ?_
    rw [hr.out]
    rintro e w1 ⟨rfl, hb⟩
    have q1 := (after (w := w) hb (by go_grown)).1
    replace hX := hid_mk (hX.out.keep (after hb (by go_grown)).1)
    replace hY := hid_mk (hY.out.keep (after hb (by go_grown)).1)
    replace hN := hid_mk (hN.out.keep (after hb (by go_grown)).1)
    have hs1 := hb.size; try simp only [World.size_alloc] at hs1; clear hb
    go_wp2_with fail
    rw [logV_mk at' term more]
    refine (refRight_any ⟨at', term, more⟩ _ _ _ _ (by omega) (h'.to (by go_grown))).mono ?_
    rw [hr2.out]
    rintro e w2 ⟨rfl, hb⟩
    have q2 := (after (w := w) hb (by go_grown)).1
    replace hX := hid_mk (hX.out.keep (after hb (by go_grown)).1)
    replace hY := hid_mk (hY.out.keep (after hb (by go_grown)).1)
    replace hN := hid_mk (hN.out.keep (after hb (by go_grown)).1)
    have hs2 := hb.size; try simp only [World.size_alloc] at hs2; clear hb
    obtain ⟨hgx, x0, x1, x2⟩ := blk3 hX.out
    go_wp2_with fail
    try rw [← logV_eq]
    refine (refLast_any l _ _ _ _ (by omega) hlen.out hbd.1 hbd.2.1).mono ?_
    rw [hla.out]
    rintro e w3 ⟨rfl, hb⟩
    have q3 := (after (w := w) hb (by go_grown)).1
    replace hX := hid_mk (hX.out.keep (after hb (by go_grown)).1)
    replace hY := hid_mk (hY.out.keep (after hb (by go_grown)).1)
    replace hN := hid_mk (hN.out.keep (after hb (by go_grown)).1)
    clear hgx x0 x1 x2
    obtain ⟨hgx, x0, x1, x2⟩ := blk3 hX.out
    have hs3 := hb.size; try simp only [World.size_alloc] at hs3; clear hb
    clear hgx x0 x1 x2
    obtain ⟨hgx, x0, x1, x2⟩ := blk3 hX.out
    obtain ⟨hgy, y0, y1, y2, e0, e1, e2⟩ := blk3f hY.out
    by_cases g2 : l.base + n < at' - 1
    · skip
      go_wp2
      try simp only [Exit.inBlock, Exit.then]
      refine ends_ret hQ (v := .tuple #[.agg #[.int .i64 l.base, .int .i64 l.bt, .slice A n cap], .int .i64 (l.base + n), .bool false, .int .i64 0]) (by simp [results, Tryz.results99, go_sem, y0, y1, y2]) rfl ?_
      rw [hz.out, hla.out, Int.min_eq_left (by omega)]
      exact ⟨A, n, cap, rfl, set3_reads hY.out _ _ _ (by omega) (by decide) (h.to q3), hcap, set3_below _ _ _ q3 (by simp)⟩
    · skip
      go_wp2
      try simp only [Exit.inBlock, Exit.then]
      refine ends_ret hQ (v := .tuple #[.agg #[.int .i64 l.base, .int .i64 l.bt, .slice A n cap], .int .i64 (at' - 1), .bool false, .int .i64 0]) (by simp [results, Tryz.results99, go_sem, y0, y1, y2]) rfl ?_
      rw [hz.out, hla.out, Int.min_eq_right (by omega)]
      exact ⟨A, n, cap, rfl, set3_reads hY.out _ _ _ (by omega) (by decide) (h.to q3), hcap, set3_below _ _ _ q3 (by simp)⟩
  obtain ⟨t0, ht0, hne⟩ : ∃ t0, termJ l at' = some t0 ∧ (t0 != term) = true := by
    cases hta : termJ l at' with
    | none => exact absurd hta (by unfold termJ lastJ; rw [hlen.out]; split; · simp
                                   · rw [if_pos (by omega), List.getElem?_eq_getElem (by rw [hlen.out]; omega)]; simp)
    | some t0 => exact ⟨t0, rfl, by rw [hta] at ga2; simp only [bne_iff_ne]; intro e; exact ga2 (by rw [e])⟩
  clear ga2
  replace ht0 := hid_mk ht0
  replace hr := hid_mk hr
  replace hr2 := hid_mk hr2
  rw [logV_eq]
  refine calls_of_wpQ Tryz.func99 rfl ?_
  intro Q hQ
  simp only [Tryz.ntmps99, List.size_toArray, List.length_cons, List.length_nil, Nat.reduceAdd, Nat.reduceSub, Array.replicate_succ, Array.replicate_zero, List.push_toArray, List.append_toArray, List.nil_append, List.cons_append]
  go_wp2_with fail
  try rw [← logV_eq]
  refine (refRight_any l _ _ _ _ (by omega) (h.to (by go_grown))).mono ?_
  rw [hr.out]
  rintro e w1 ⟨rfl, hb⟩
  have q1 := (after (w := w) hb (by go_grown)).1
  replace hX := hid_mk (hX.out.keep (after hb (by go_grown)).1)
  replace hY := hid_mk (hY.out.keep (after hb (by go_grown)).1)
  replace hN := hid_mk (hN.out.keep (after hb (by go_grown)).1)
  have hs1 := hb.size; try simp only [World.size_alloc] at hs1; clear hb
  go_wp2_with fail
  rw [logV_mk at' term more]
  refine (refRight_any ⟨at', term, more⟩ _ _ _ _ (by omega) (h'.to (by go_grown))).mono ?_
  rw [hr2.out]
  rintro e w2 ⟨rfl, hb⟩
  have q2 := (after (w := w) hb (by go_grown)).1
  replace hX := hid_mk (hX.out.keep (after hb (by go_grown)).1)
  replace hY := hid_mk (hY.out.keep (after hb (by go_grown)).1)
  replace hN := hid_mk (hN.out.keep (after hb (by go_grown)).1)
  have hs2 := hb.size; try simp only [World.size_alloc] at hs2; clear hb
  obtain ⟨hgx, x0, x1, x2⟩ := blk3 hX.out
  go_wp2_with fail
  try rw [← logV_eq]
  refine (refLast_any l _ _ _ _ (by omega) hlen.out hbd.1 hbd.2.1).mono ?_
  rw [hla.out]
  rintro e w3 ⟨rfl, hb⟩
  have q3 := (after (w := w) hb (by go_grown)).1
  replace hX := hid_mk (hX.out.keep (after hb (by go_grown)).1)
  replace hY := hid_mk (hY.out.keep (after hb (by go_grown)).1)
  replace hN := hid_mk (hN.out.keep (after hb (by go_grown)).1)
  clear hgx x0 x1 x2
  obtain ⟨hgx, x0, x1, x2⟩ := blk3 hX.out
  have hs3 := hb.size; try simp only [World.size_alloc] at hs3; clear hb
  clear hgx x0 x1 x2
  obtain ⟨hgx, x0, x1, x2⟩ := blk3 hX.out
  obtain ⟨hgy, y0, y1, y2, e0, e1, e2⟩ := blk3f hY.out
  go_wp2_with fail
  try rw [← logV_eq]
  refine (refTerm_any l _ A n cap _ (by omega) (h.to (by go_grown)) hbd.1 hbd.2.1).mono ?_
  rw [ht0.out, Option.getD_some]
  rintro e w4 ⟨rfl, hb⟩
  have q4 := (after (w := w) hb (by go_grown)).1
  replace hX := hid_mk (hX.out.keep (after hb (by go_grown)).1)
  replace hY := hid_mk (hY.out.keep (after hb (by go_grown)).1)
  replace hN := hid_mk (hN.out.keep (after hb (by go_grown)).1)
  clear hgx x0 x1 x2 hgy y0 y1 y2 e0 e1 e2
  obtain ⟨hgx, x0, x1, x2⟩ := blk3 hX.out
  obtain ⟨hgy, y0, y1, y2, e0, e1, e2⟩ := blk3f hY.out
  have hs4 := hb.size; try simp only [World.size_alloc] at hs4; clear hb
  go_wp2
  try simp only [Exit.inBlock, Exit.then]
  refine ends_ret hQ (v := .tuple #[.agg #[.int .i64 l.base, .int .i64 l.bt, .slice A n cap], .int .i64 (at' - 1), .bool false, .int .i64 0]) (by simp [results, Tryz.results99, go_sem, y0, y1, y2]) rfl ?_
  rw [hz.out, hla.out, Int.min_eq_right (by omega)]
  exact ⟨A, n, cap, rfl, set3_reads hY.out _ _ _ (by omega) (by decide) (h.to q4), hcap, set3_below _ _ _ q4 (by simp)⟩
end Go.Proofs.YtncdjmpdbinanaaGreatDoor
namespace Go.Proofs.YtncdjmpdbinanaaGreatDoor
open Go.RowKit

set_option maxRecDepth 100000 in
theorem right_iff {l : Lg} : rightJ l = true ↔ (0 ≤ l.base ∧ l.base ≤ 1073741824 ∧ 0 ≤ l.bt ∧ l.bt ≤ 1073741824 ∧ (l.base = 0 ↔ l.bt = 0) ∧ l.rs.length ≤ 200 ∧ l.base + l.rs.length ≤ 1073741824 ∧ okRecs (max l.bt 1) l.rs = true) := by
  unfold rightJ inB
  simp only [Bool.and_eq_true, decide_eq_true_eq, beq_iff_eq]
  have : ((l.base == 0) = (l.bt == 0)) ↔ (l.base = 0 ↔ l.bt = 0) := by
    rw [Bool.eq_iff_iff, beq_iff_eq, beq_iff_eq]
  rw [this]
  constructor
  · rintro ⟨⟨⟨⟨⟨⟨a, b⟩, c, d⟩, e⟩, f⟩, g⟩, h⟩; exact ⟨a, b, c, d, e, f, g, h⟩
  · rintro ⟨a, b, c, d, e, f, g, h⟩; exact ⟨⟨⟨⟨⟨⟨a, b⟩, c, d⟩, e⟩, f⟩, g⟩, h⟩
set_option maxRecDepth 100000 in
theorem termJ_at {l : Lg} {p : Int} (h : l.base < p) : termJ l p = (l.rs[(p - l.base - 1).toNat]?).map Rec.t := by
  unfold termJ lastJ
  rw [if_neg (by omega)]
  split
  · rfl
  · rw [List.getElem?_eq_none (by omega)]; rfl
end Go.Proofs.YtncdjmpdbinanaaGreatDoor
namespace Go.Proofs.YtncdjmpdbinanaaGreatDoor
open Go.RowKit

end Go.Proofs.YtncdjmpdbinanaaGreatDoor
