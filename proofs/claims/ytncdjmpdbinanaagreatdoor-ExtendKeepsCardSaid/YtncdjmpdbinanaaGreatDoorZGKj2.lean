/-
  WHAT IS PROVED HERE: the plain function that journal.Merge computes, what upTo hands back, small lemmas on readings. Conditions: slices of at most 2^47 records.
  WHAT IS PROVED HERE: what the reference's Merge hands back where it refuses or the records do not fit. Conditions: slices of at most 2^40 records.
  WHAT IS PROVED HERE: plain laws of the function that journal.Merge computes: what stands at each place behind a merge that fits, that merging again changes nothing, that two logs come together, that a compacted log merges like the whole one. No program in sight. No condition.
  WHAT IS PROVED HERE: plain laws of the function that journal.Merge computes: two logs that part behind a place come together (P15.5), a compacted log merges like the whole one (P15.3). No program in sight. No condition.
-/
import Derived.Test.YtncdjmpdbinanaaGreatDoorZGKj1
import Derived.Test.YtncdjmpdbinanaaGreatDoorZGJrn
import Derived.Deep.RegionLawGrows
namespace Go.Proofs.YtncdjmpdbinanaaGreatDoor
open Go.RowKit

/-- the first that is not there -/
def fdJ (l : Lg) (at' : Int) (i : Nat) : List Rec → Option Nat
  | [] => none
  | r :: rs => if at' + 1 + i ≤ l.base ∨ termJ l (at' + 1 + i) = some r.t then fdJ l at' (i + 1) rs else some i
structure Mg where
  l : Lg
  n : Int
  f : Bool
  e : Int
def mergeJ (l : Lg) (at' term : Int) (more : List Rec) : Mg :=
  if rightJ l && rightJ ⟨at', term, more⟩ then
    if l.base ≤ at' ∧ termJ l at' ≠ some term then ⟨l, min (lastJ l) (at' - 1), false, 0⟩
    else match fdJ l at' 0 more with
      | none => ⟨l, max l.base (at' + more.length), true, 0⟩
      | some i =>
        let rs := l.rs.take (at' + i - l.base).toNat ++ more.drop i
        if 200 < rs.length then ⟨zeroL, 0, false, 130⟩
        else if rightJ ⟨l.base, l.bt, rs⟩ then ⟨⟨l.base, l.bt, rs⟩, max l.base (at' + more.length), true, 0⟩
        else ⟨zeroL, 0, false, 1⟩
  else ⟨zeroL, 0, false, 1⟩
set_option maxRecDepth 100000 in
theorem mergeJ_fits {l : Lg} {at' term : Int} {more : List Rec} (hr : rightJ l = true) (hr2 : rightJ ⟨at', term, more⟩ = true) (ga : ¬ (l.base ≤ at' ∧ termJ l at' ≠ some term)) :
    mergeJ l at' term more = (match fdJ l at' 0 more with
      | none => ⟨l, max l.base (at' + more.length), true, 0⟩
      | some i =>
        let rs := l.rs.take (at' + i - l.base).toNat ++ more.drop i
        if 200 < rs.length then ⟨zeroL, 0, false, 130⟩
        else if rightJ ⟨l.base, l.bt, rs⟩ then ⟨⟨l.base, l.bt, rs⟩, max l.base (at' + more.length), true, 0⟩
        else ⟨zeroL, 0, false, 1⟩ : Mg) := by unfold mergeJ; rw [hr, hr2]; simp only [Bool.and_self, if_true]; rw [if_neg ga]
set_option maxRecDepth 100000 in
theorem reads_cells {w : World} {B size n : Nat} {e : TypeId} {A : Option Addr} {xs : List Value} (h : Reads w B e size A n xs) : ∀ b, A = some b → ∀ j u, xs[j]? = some u → w.cell? (b.add j) = some u := by
  intro b hb j u hu
  rcases Nat.eq_zero_or_pos n with h0 | h0
  · subst h0
    have hx : xs = [] := List.eq_nil_of_length_eq_zero (by simpa using h.1)
    subst hx
    simp at hu
  · obtain ⟨b', o, e, _, _, hc⟩ := h.2 h0
    rw [hb] at e
    injection e with e
    subst e
    rw [add_plain]
    exact hc j u hu
set_option maxRecDepth 100000 in
theorem reads_none {w : World} {B size n : Nat} {e : TypeId} {A : Option Addr} {xs : List Value} (h : Reads w B e size A n xs) : A = none → n = 0 := by
  rintro rfl
  rcases Nat.eq_zero_or_pos n with h0 | h0
  · exact h0
  · obtain ⟨_, _, e, _⟩ := h.2 h0
    cases e
def RetMg (B : Nat) (w : World) (m : Mg) (e : Ending) (w' : World) : Prop :=
  ∃ A n cap, e = .returned (.tuple #[logV m.l A n cap, .int .i64 m.n, .bool m.f, .int .i64 m.e]) ∧ Recs w' B A n m.l.rs ∧ n ≤ cap ∧ cap ≤ maxLen ∧ Below w.heap.size w w'
set_option maxRecDepth 100000 in
theorem run_slice_upto3 {P : Program} (w : World) (t e : TypeId) (ht : P.underlying t = some (.slice e)) (i : TypeInfo) (hi : P.info? e = some i) (A : Option Addr) (n cap : Nat) (x : Int) (h0 : 0 ≤ x) (h1 : x ≤ cap) :
    (Instr.slice t (.slice A n cap) none (some (.int .i64 x)) (some (.int .i64 x))).run P w = .ok (.slice A x.toNat x.toNat) w := by
  simp [Instr.slice, Instr.sliceBounds, run_underlying ht, sizeOf, typeInfo, hi, go_sem, h0, h1]
  intro h; omega
set_option maxRecDepth 100000 in
set_option maxHeartbeats 400000 in
theorem upTo_any (l : Lg) (at' : Int) (A : Option Addr) (n cap : Nat) (w : World) (hm : n ≤ 140737488355328) (hcap : n ≤ cap) (h0 : 0 ≤ l.base) (hb : l.base ≤ 1073741824) (h1 : l.base ≤ at') (h2 : at' ≤ l.base + n) :
    Calls Tryz.prog 136 #[logV l A n cap, .int .i64 at'] w fun e w' => e = .returned (.slice A (at' - l.base).toNat (at' - l.base).toNat) ∧ Below w.heap.size w w' := by
  obtain ⟨i0, hi0, hz0, hz1, hz2⟩ := info_parts recInfo
  have e1 := fun w => run_slice_upto3 (P := Tryz.prog) w 22 51 Tryz.underlying22 i0 hi0 A n cap (at' - l.base) (by omega) (by omega)
  obtain ⟨base, bt, rs⟩ := l
  unfold logV
  dsimp only at *
  clear hi0 hz0 hz1 hz2
  go_enter Tryz.func136, Tryz.ntmps136
  go_wp2
  go_ret
  exact ⟨rfl, by go_grown⟩
set_option maxRecDepth 100000 in
theorem recs_append {w : World} {B n : Nat} {A : Option Addr} {xs ys : List Rec} (h : Reads w B 51 3 A n (cellsOf xs ++ cellsOf ys)) : Recs w B A n (xs ++ ys) := by
  unfold Recs cellsOf at *
  rw [List.flatMap_append]
  exact h
end Go.Proofs.YtncdjmpdbinanaaGreatDoor
namespace Go.Proofs.YtncdjmpdbinanaaGreatDoor
open Go.RowKit

/-- what the reference's merge hands back -/
def RetMgR (B : Nat) (w : World) (m : Mg) (e : Ending) (w' : World) : Prop :=
  ∃ A n cap, e = .returned (.tuple #[logV m.l A n cap, .int .i64 m.n, .bool m.f, .int .i64 m.e]) ∧ Recs w' B A n m.l.rs ∧ n ≤ cap ∧ Below w.heap.size w w'

set_option maxRecDepth 100000 in
theorem recs_pos : ∀ {rs : List Rec} {t : Int}, 1 ≤ t → okRecs t rs = true → ∀ r ∈ rs, 1 ≤ r.t
  | [], _, _, _, r, hr => absurd hr (List.not_mem_nil)
  | x :: xs, t, ht, h, r, hr => by
    unfold okRecs inB at h
    split at h
    · rename_i hc
      simp only [Bool.and_eq_true, decide_eq_true_eq] at hc
      rcases List.mem_cons.1 hr with rfl | hr
      · omega
      · exact recs_pos (by omega) h r hr
    · cases h
set_option maxRecDepth 100000 in
theorem right_pos {l : Lg} (h : rightJ l = true) : ∀ r ∈ l.rs, 1 ≤ r.t := by
  unfold rightJ at h
  simp only [Bool.and_eq_true] at h
  exact recs_pos (by omega) h.2
set_option maxRecDepth 100000 in
set_option maxRecDepth 100000 in
set_option maxHeartbeats 3200000 in
theorem refMerge_no (l : Lg) (at' term : Int) (more : List Rec) (A : Option Addr) (n cap : Nat) (A' : Option Addr) (n' cap' : Nat) (w : World) {B : Nat} (hB : B ≤ w.heap.size) (hm : n ≤ 4398046511103) (hm' : n' ≤ 4398046511103) (hcap : n ≤ cap) (_hcap' : n' ≤ cap') (h : Recs w B A n l.rs) (h' : Recs w B A' n' more) (ga0 : ¬ ((rightJ l && rightJ ⟨at', term, more⟩) = true ∧ ¬ (l.base ≤ at' ∧ termJ l at' ≠ some term))) :
    Calls Tryz.prog 99 #[logV l A n cap, .int .i64 at', .int .i64 term, .slice A' n' cap'] w (RetMgR B w (mergeJ l at' term more)) := by
  have hlen := hid_mk h.len
  have hlen' := hid_mk h'.len
  have hX0 := Blk.new w 24 #[.int .i64 l.base, .int .i64 l.bt, .slice A n cap]
  have hY0 := Blk.new (w.alloc (.cells #[.int .i64 l.base, .int .i64 l.bt, .slice A n cap] 24)) 24 #[.int .i64 0, .int .i64 0, .slice none 0 0]
  have hN0 := Blk.new ((w.alloc (.cells #[.int .i64 l.base, .int .i64 l.bt, .slice A n cap] 24)).alloc (.cells #[.int .i64 0, .int .i64 0, .slice none 0 0] 24)) 24 #[.int .i64 0, .int .i64 0, .slice none 0 0]
  simp only [World.size_alloc] at hY0 hN0
  have hX := hid_mk ((hX0.alloc (.cells #[.int .i64 0, .int .i64 0, .slice none 0 0] 24)).alloc (.cells #[.int .i64 0, .int .i64 0, .slice none 0 0] 24))
  have hY := hid_mk (hY0.alloc (.cells #[.int .i64 0, .int .i64 0, .slice none 0 0] 24))
  have hN := hid_mk (hN0)
  clear hX0 hY0 hN0
  cases hr : rightJ l
  · have hz : Hid (mergeJ l at' term more = ⟨zeroL, 0, false, 1⟩) := by unfold Hid mergeJ; rw [hr]; rfl
    replace hr := hid_mk hr
    rw [logV_eq]
    refine calls_of_wpQ Tryz.func99 rfl ?_
    intro Q hQ
    simp only [Tryz.ntmps99, List.size_toArray, List.length_cons, List.length_nil, Nat.reduceAdd, Nat.reduceSub, Array.replicate_succ, Array.replicate_zero, List.push_toArray, List.append_toArray, List.nil_append, List.cons_append]
    go_wp2_with fail
    try rw [← logV_eq]
    refine (refRight_any l _ _ _ _ (by omega) (h.to (by go_grown))).mono ?_
    rw [hr.out]
    rintro e w1 ⟨rfl, hb⟩
    have q1 := (after (w := w) hb (by go_grown)).1
    replace hX := hid_mk (hX.out.keep (after hb (by go_grown)).1)
    replace hY := hid_mk (hY.out.keep (after hb (by go_grown)).1)
    replace hN := hid_mk (hN.out.keep (after hb (by go_grown)).1)
    have hs1 := hb.size; try simp only [World.size_alloc] at hs1; clear hb
    obtain ⟨hgy, y0, y1, y2, e0, e1, e2⟩ := blk3f hY.out
    obtain ⟨hgn, n0, n1, n2⟩ := blk3 hN.out
    go_wp2
    try simp only [Exit.inBlock, Exit.then]
    refine ends_ret hQ (v := .tuple #[.agg #[.int .i64 0, .int .i64 0, .slice none 0 0], .int .i64 0, .bool false, .int .i64 1]) (by simp [results, Tryz.results99, go_sem, y0, y1, y2]) rfl ?_
    rw [hz.out]
    exact ⟨none, 0, 0, rfl, Reads.none_, Nat.le_refl _, set3_below _ _ _ q1 (by simp)⟩
  have hbd := right_bounds hr
  cases hr2 : rightJ ⟨at', term, more⟩
  · have hz : Hid (mergeJ l at' term more = ⟨zeroL, 0, false, 1⟩) := by unfold Hid mergeJ; rw [hr, hr2]; rfl
    replace hr := hid_mk hr
    replace hr2 := hid_mk hr2
    rw [logV_eq]
    refine calls_of_wpQ Tryz.func99 rfl ?_
    intro Q hQ
    simp only [Tryz.ntmps99, List.size_toArray, List.length_cons, List.length_nil, Nat.reduceAdd, Nat.reduceSub, Array.replicate_succ, Array.replicate_zero, List.push_toArray, List.append_toArray, List.nil_append, List.cons_append]
    go_wp2_with fail
    try rw [← logV_eq]
    refine (refRight_any l _ _ _ _ (by omega) (h.to (by go_grown))).mono ?_
    rw [hr.out]
    rintro e w1 ⟨rfl, hb⟩
    have q1 := (after (w := w) hb (by go_grown)).1
    replace hX := hid_mk (hX.out.keep (after hb (by go_grown)).1)
    replace hY := hid_mk (hY.out.keep (after hb (by go_grown)).1)
    replace hN := hid_mk (hN.out.keep (after hb (by go_grown)).1)
    have hs1 := hb.size; try simp only [World.size_alloc] at hs1; clear hb
    go_wp2_with fail
    rw [logV_mk at' term more]
    refine (refRight_any ⟨at', term, more⟩ _ _ _ _ (by omega) (h'.to (by go_grown))).mono ?_
    rw [hr2.out]
    rintro e w2 ⟨rfl, hb⟩
    have q2 := (after (w := w) hb (by go_grown)).1
    replace hX := hid_mk (hX.out.keep (after hb (by go_grown)).1)
    replace hY := hid_mk (hY.out.keep (after hb (by go_grown)).1)
    replace hN := hid_mk (hN.out.keep (after hb (by go_grown)).1)
    have hs2 := hb.size; try simp only [World.size_alloc] at hs2; clear hb
    obtain ⟨hgy, y0, y1, y2, e0, e1, e2⟩ := blk3f hY.out
    obtain ⟨hgn, n0, n1, n2⟩ := blk3 hN.out
    go_wp2
    try simp only [Exit.inBlock, Exit.then]
    refine ends_ret hQ (v := .tuple #[.agg #[.int .i64 0, .int .i64 0, .slice none 0 0], .int .i64 0, .bool false, .int .i64 1]) (by simp [results, Tryz.results99, go_sem, y0, y1, y2]) rfl ?_
    rw [hz.out]
    exact ⟨none, 0, 0, rfl, Reads.none_, Nat.le_refl _, set3_below _ _ _ q2 (by simp)⟩
  have hbd2 := right_bounds hr2
  dsimp only at hbd2
  have hln := hlen.out
  have hln' := hlen'.out
  have hn200 : n ≤ 200 := by omega
  have hn200' : n' ≤ 200 := by omega
  have ga : l.base ≤ at' ∧ termJ l at' ≠ some term := Classical.byContradiction fun e => ga0 ⟨by rw [hr, hr2]; rfl, e⟩
  clear ga0
  have hz : Hid (mergeJ l at' term more = ⟨l, min (lastJ l) (at' - 1), false, 0⟩) := by unfold Hid mergeJ; rw [hr, hr2]; simp [ga]
  obtain ⟨mg, hmg⟩ : ∃ mg, mergeJ l at' term more = mg := ⟨_, rfl⟩
  rw [hmg]
  replace hz := hid_mk (hmg.symm.trans hz.out)
  clear hmg
  obtain ⟨ga1, ga2⟩ := ga
  have hla : Hid (lastJ l = l.base + n) := by unfold Hid lastJ; rw [hln]
  have hw1 : IntKind.i64.wrap (at' - 1) = at' - 1 := IntWalk.i64_in _ (by omega)
  clear hln hln'
  by_cases g1 : l.base + n < at'
  · skip
    clear ga2
    replace hr := hid_mk hr
    replace hr2 := hid_mk hr2
    rw [logV_eq]
    refine calls_of_wpQ Tryz.func99 rfl ?_
    intro Q hQ
    simp only [Tryz.ntmps99, List.size_toArray, List.length_cons, List.length_nil, Nat.reduceAdd, Nat.reduceSub, Array.replicate_succ, Array.replicate_zero, List.push_toArray, List.append_toArray, List.nil_append, List.cons_append]
    go_wp2_with fail
    try rw [← logV_eq]
    refine (refRight_any l _ _ _ _ (by omega) (h.to (by go_grown))).mono ?_
    rw [hr.out]
    rintro e w1 ⟨rfl, hb⟩
    have q1 := (after (w := w) hb (by go_grown)).1
    replace hX := hid_mk (hX.out.keep (after hb (by go_grown)).1)
    replace hY := hid_mk (hY.out.keep (after hb (by go_grown)).1)
    replace hN := hid_mk (hN.out.keep (after hb (by go_grown)).1)
    have hs1 := hb.size; try simp only [World.size_alloc] at hs1; clear hb
    go_wp2_with fail
    rw [logV_mk at' term more]
    refine (refRight_any ⟨at', term, more⟩ _ _ _ _ (by omega) (h'.to (by go_grown))).mono ?_
    rw [hr2.out]
    rintro e w2 ⟨rfl, hb⟩
    have q2 := (after (w := w) hb (by go_grown)).1
    replace hX := hid_mk (hX.out.keep (after hb (by go_grown)).1)
    replace hY := hid_mk (hY.out.keep (after hb (by go_grown)).1)
    replace hN := hid_mk (hN.out.keep (after hb (by go_grown)).1)
    have hs2 := hb.size; try simp only [World.size_alloc] at hs2; clear hb
    obtain ⟨hgx, x0, x1, x2⟩ := blk3 hX.out
    go_wp2_with fail
    try rw [← logV_eq]
    refine (refLast_any l _ _ _ _ (by omega) hlen.out hbd.1 hbd.2.1).mono ?_
    rw [hla.out]
    rintro e w3 ⟨rfl, hb⟩
    have q3 := (after (w := w) hb (by go_grown)).1
    replace hX := hid_mk (hX.out.keep (after hb (by go_grown)).1)
    replace hY := hid_mk (hY.out.keep (after hb (by go_grown)).1)
    replace hN := hid_mk (hN.out.keep (after hb (by go_grown)).1)
    clear hgx x0 x1 x2
    obtain ⟨hgx, x0, x1, x2⟩ := blk3 hX.out
    have hs3 := hb.size; try simp only [World.size_alloc] at hs3; clear hb
    clear hgx x0 x1 x2
    obtain ⟨hgx, x0, x1, x2⟩ := blk3 hX.out
    obtain ⟨hgy, y0, y1, y2, e0, e1, e2⟩ := blk3f hY.out
    by_cases g2 : l.base + n < at' - 1
    · skip
      go_wp2
      try simp only [Exit.inBlock, Exit.then]
      refine ends_ret hQ (v := .tuple #[.agg #[.int .i64 l.base, .int .i64 l.bt, .slice A n cap], .int .i64 (l.base + n), .bool false, .int .i64 0]) (by simp [results, Tryz.results99, go_sem, y0, y1, y2]) rfl ?_
      rw [hz.out, hla.out, Int.min_eq_left (by omega)]
      exact ⟨A, n, cap, rfl, set3_reads hY.out _ _ _ (by omega) (by decide) (h.to q3), hcap, set3_below _ _ _ q3 (by simp)⟩
    · skip
      go_wp2
      try simp only [Exit.inBlock, Exit.then]
      refine ends_ret hQ (v := .tuple #[.agg #[.int .i64 l.base, .int .i64 l.bt, .slice A n cap], .int .i64 (at' - 1), .bool false, .int .i64 0]) (by simp [results, Tryz.results99, go_sem, y0, y1, y2]) rfl ?_
      rw [hz.out, hla.out, Int.min_eq_right (by omega)]
      exact ⟨A, n, cap, rfl, set3_reads hY.out _ _ _ (by omega) (by decide) (h.to q3), hcap, set3_below _ _ _ q3 (by simp)⟩
  obtain ⟨t0, ht0, hne⟩ : ∃ t0, termJ l at' = some t0 ∧ (t0 != term) = true := by
    cases hta : termJ l at' with
    | none => exact absurd hta (by unfold termJ lastJ; rw [hlen.out]; split; · simp
                                   · rw [if_pos (by omega), List.getElem?_eq_getElem (by rw [hlen.out]; omega)]; simp)
    | some t0 => exact ⟨t0, rfl, by rw [hta] at ga2; simp only [bne_iff_ne]; intro e; exact ga2 (by rw [e])⟩
  clear ga2
  replace ht0 := hid_mk ht0
  replace hr := hid_mk hr
  replace hr2 := hid_mk hr2
  rw [logV_eq]
  refine calls_of_wpQ Tryz.func99 rfl ?_
  intro Q hQ
  simp only [Tryz.ntmps99, List.size_toArray, List.length_cons, List.length_nil, Nat.reduceAdd, Nat.reduceSub, Array.replicate_succ, Array.replicate_zero, List.push_toArray, List.append_toArray, List.nil_append, List.cons_append]
  go_wp2_with fail
  try rw [← logV_eq]
  refine (refRight_any l _ _ _ _ (by omega) (h.to (by go_grown))).mono ?_
  rw [hr.out]
  rintro e w1 ⟨rfl, hb⟩
  have q1 := (after (w := w) hb (by go_grown)).1
  replace hX := hid_mk (hX.out.keep (after hb (by go_grown)).1)
  replace hY := hid_mk (hY.out.keep (after hb (by go_grown)).1)
  replace hN := hid_mk (hN.out.keep (after hb (by go_grown)).1)
  have hs1 := hb.size; try simp only [World.size_alloc] at hs1; clear hb
  go_wp2_with fail
  rw [logV_mk at' term more]
  refine (refRight_any ⟨at', term, more⟩ _ _ _ _ (by omega) (h'.to (by go_grown))).mono ?_
  rw [hr2.out]
  rintro e w2 ⟨rfl, hb⟩
  have q2 := (after (w := w) hb (by go_grown)).1
  replace hX := hid_mk (hX.out.keep (after hb (by go_grown)).1)
  replace hY := hid_mk (hY.out.keep (after hb (by go_grown)).1)
  replace hN := hid_mk (hN.out.keep (after hb (by go_grown)).1)
  have hs2 := hb.size; try simp only [World.size_alloc] at hs2; clear hb
  obtain ⟨hgx, x0, x1, x2⟩ := blk3 hX.out
  go_wp2_with fail
  try rw [← logV_eq]
  refine (refLast_any l _ _ _ _ (by omega) hlen.out hbd.1 hbd.2.1).mono ?_
  rw [hla.out]
  rintro e w3 ⟨rfl, hb⟩
  have q3 := (after (w := w) hb (by go_grown)).1
  replace hX := hid_mk (hX.out.keep (after hb (by go_grown)).1)
  replace hY := hid_mk (hY.out.keep (after hb (by go_grown)).1)
  replace hN := hid_mk (hN.out.keep (after hb (by go_grown)).1)
  clear hgx x0 x1 x2
  obtain ⟨hgx, x0, x1, x2⟩ := blk3 hX.out
  have hs3 := hb.size; try simp only [World.size_alloc] at hs3; clear hb
  clear hgx x0 x1 x2
  obtain ⟨hgx, x0, x1, x2⟩ := blk3 hX.out
  obtain ⟨hgy, y0, y1, y2, e0, e1, e2⟩ := blk3f hY.out
  go_wp2_with fail
  try rw [← logV_eq]
  refine (refTerm_any l _ A n cap _ (by omega) (h.to (by go_grown)) hbd.1 hbd.2.1).mono ?_
  rw [ht0.out, Option.getD_some]
  rintro e w4 ⟨rfl, hb⟩
  have q4 := (after (w := w) hb (by go_grown)).1
  replace hX := hid_mk (hX.out.keep (after hb (by go_grown)).1)
  replace hY := hid_mk (hY.out.keep (after hb (by go_grown)).1)
  replace hN := hid_mk (hN.out.keep (after hb (by go_grown)).1)
  clear hgx x0 x1 x2 hgy y0 y1 y2 e0 e1 e2
  obtain ⟨hgx, x0, x1, x2⟩ := blk3 hX.out
  obtain ⟨hgy, y0, y1, y2, e0, e1, e2⟩ := blk3f hY.out
  have hs4 := hb.size; try simp only [World.size_alloc] at hs4; clear hb
  go_wp2
  try simp only [Exit.inBlock, Exit.then]
  refine ends_ret hQ (v := .tuple #[.agg #[.int .i64 l.base, .int .i64 l.bt, .slice A n cap], .int .i64 (at' - 1), .bool false, .int .i64 0]) (by simp [results, Tryz.results99, go_sem, y0, y1, y2]) rfl ?_
  rw [hz.out, hla.out, Int.min_eq_right (by omega)]
  exact ⟨A, n, cap, rfl, set3_reads hY.out _ _ _ (by omega) (by decide) (h.to q4), hcap, set3_below _ _ _ q4 (by simp)⟩
end Go.Proofs.YtncdjmpdbinanaaGreatDoor
namespace Go.Proofs.YtncdjmpdbinanaaGreatDoor
open Go.RowKit

set_option maxRecDepth 100000 in
theorem okRecs_cons (t : Int) (x : Rec) (xs : List Rec) : okRecs t (x :: xs) = if inB x.t t 1073741824 && inB x.k 0 2 && decide (x.d.size ≤ 8192) then okRecs x.t xs else false := rfl
set_option maxRecDepth 100000 in
theorem okRecs_append : ∀ {xs ys : List Rec} {t : Int}, okRecs t (xs ++ ys) = (okRecs t xs && okRecs ((xs.getLast?.map Rec.t).getD t) ys)
  | [], ys, t => by simp [okRecs]
  | x :: xs, ys, t => by
    rw [List.cons_append, okRecs_cons, okRecs_cons]
    split
    · rw [okRecs_append (xs := xs)]
      congr 2
      cases xs with
      | nil => rfl
      | cons z zs =>
        rw [List.getLast?_cons_cons]
        rw [List.getLast?_eq_some_getLast (show z :: zs ≠ [] by simp)]; rfl
    · simp
set_option maxRecDepth 100000 in
theorem right_iff {l : Lg} : rightJ l = true ↔ (0 ≤ l.base ∧ l.base ≤ 1073741824 ∧ 0 ≤ l.bt ∧ l.bt ≤ 1073741824 ∧ (l.base = 0 ↔ l.bt = 0) ∧ l.rs.length ≤ 200 ∧ l.base + l.rs.length ≤ 1073741824 ∧ okRecs (max l.bt 1) l.rs = true) := by
  unfold rightJ inB
  simp only [Bool.and_eq_true, decide_eq_true_eq, beq_iff_eq]
  have : ((l.base == 0) = (l.bt == 0)) ↔ (l.base = 0 ↔ l.bt = 0) := by
    rw [Bool.eq_iff_iff, beq_iff_eq, beq_iff_eq]
  rw [this]
  constructor
  · rintro ⟨⟨⟨⟨⟨⟨a, b⟩, c, d⟩, e⟩, f⟩, g⟩, h⟩; exact ⟨a, b, c, d, e, f, g, h⟩
  · rintro ⟨a, b, c, d, e, f, g, h⟩; exact ⟨⟨⟨⟨⟨⟨a, b⟩, c, d⟩, e⟩, f⟩, g⟩, h⟩
set_option maxRecDepth 100000 in
theorem termJ_at {l : Lg} {p : Int} (h : l.base < p) : termJ l p = (l.rs[(p - l.base - 1).toNat]?).map Rec.t := by
  unfold termJ lastJ
  rw [if_neg (by omega)]
  split
  · rfl
  · rw [List.getElem?_eq_none (by omega)]; rfl
set_option maxRecDepth 100000 in
theorem fdJ_spec {l : Lg} {at' : Int} : ∀ {xs : List Rec} {k : Nat}, match fdJ l at' k xs with
    | none => ∀ (j : Nat) (r : Rec), xs[j]? = some r → at' + 1 + (k + j : Nat) ≤ l.base ∨ termJ l (at' + 1 + (k + j : Nat)) = some r.t
    | some i => ∃ (d : Nat) (r : Rec), i = k + d ∧ xs[d]? = some r ∧ ¬ (at' + 1 + (i : Int) ≤ l.base ∨ termJ l (at' + 1 + i) = some r.t) ∧ ∀ (j : Nat) (r' : Rec), j < d → xs[j]? = some r' → at' + 1 + (k + j : Nat) ≤ l.base ∨ termJ l (at' + 1 + (k + j : Nat)) = some r'.t
  | [], k => by simp [fdJ]
  | x :: xs, k => by
    unfold fdJ
    by_cases e : at' + 1 + (k : Int) ≤ l.base ∨ termJ l (at' + 1 + k) = some x.t
    · rw [if_pos e]
      have ih := fdJ_spec (l := l) (at' := at') (xs := xs) (k := k + 1)
      cases hf : fdJ l at' (k + 1) xs with
      | none =>
        rw [hf] at ih
        dsimp only at ih ⊢
        intro j r hj
        cases j with
        | zero => simp only [List.getElem?_cons_zero, Option.some.injEq] at hj; subst hj; exact e
        | succ j => have := ih j r (by simpa using hj); rwa [show k + 1 + j = k + (j + 1) from by omega] at this
      | some i =>
        rw [hf] at ih
        dsimp only at ih ⊢
        obtain ⟨d, r, h1, h2, h3, h4⟩ := ih
        refine ⟨d + 1, r, by omega, by simpa using h2, h3, fun j r' hj hr => ?_⟩
        cases j with
        | zero => simp only [List.getElem?_cons_zero, Option.some.injEq] at hr; subst hr; exact e
        | succ j => have := h4 j r' (by omega) (by simpa using hr); rwa [show k + 1 + j = k + (j + 1) from by omega] at this
    · rw [if_neg e]
      exact ⟨0, x, by simp, by simp, e, fun j _ h => by omega⟩
set_option maxRecDepth 100000 in
theorem fdJ_none_of {l : Lg} {at' : Int} {xs : List Rec} (h : ∀ (j : Nat) (r : Rec), xs[j]? = some r → at' + 1 + (j : Int) ≤ l.base ∨ termJ l (at' + 1 + j) = some r.t) : fdJ l at' 0 xs = none := by
  have hs := fdJ_spec (l := l) (at' := at') (xs := xs) (k := 0)
  cases hf : fdJ l at' 0 xs with
  | none => rfl
  | some i =>
    rw [hf] at hs
    obtain ⟨d, r, h1, h2, h3, _⟩ := hs
    have := h d r h2
    rw [show i = d from by omega] at h3
    exact absurd this h3
set_option maxRecDepth 100000 in
theorem fdJ_none_all {l : Lg} {at' : Int} {xs : List Rec} (hf : fdJ l at' 0 xs = none) : ∀ (j : Nat) (r : Rec), xs[j]? = some r → at' + 1 + (j : Int) ≤ l.base ∨ termJ l (at' + 1 + j) = some r.t := by
  have hs := fdJ_spec (l := l) (at' := at') (xs := xs) (k := 0)
  rw [hf] at hs
  intro j r h
  have := hs j r h
  rwa [Nat.zero_add] at this
set_option maxRecDepth 100000 in
theorem fdJ_some_all {l : Lg} {at' : Int} {xs : List Rec} {i : Nat} (hf : fdJ l at' 0 xs = some i) : ∃ r, xs[i]? = some r ∧ ¬ (at' + 1 + (i : Int) ≤ l.base ∨ termJ l (at' + 1 + i) = some r.t) ∧ ∀ (j : Nat) (r' : Rec), j < i → xs[j]? = some r' → at' + 1 + (j : Int) ≤ l.base ∨ termJ l (at' + 1 + j) = some r'.t := by
  have hs := fdJ_spec (l := l) (at' := at') (xs := xs) (k := 0)
  rw [hf] at hs
  obtain ⟨d, r, h1, h2, h3, h4⟩ := hs
  obtain rfl : i = d := by omega
  refine ⟨r, h2, h3, fun j r' hj hr => ?_⟩
  have := h4 j r' hj hr
  rwa [Nat.zero_add] at this

set_option maxRecDepth 100000 in
/-- the place at which the records part lies within the log -/
theorem fdJ_place {l : Lg} {at' term : Int} {more : List Rec} {i : Nat} (ga : ¬ (l.base ≤ at' ∧ termJ l at' ≠ some term)) (hf : fdJ l at' 0 more = some i) : l.base ≤ at' + i ∧ at' + i ≤ l.base + l.rs.length := by
  obtain ⟨r, h1, h2, h3⟩ := fdJ_some_all hf
  have hlo : l.base ≤ at' + i := by
    rcases Int.lt_or_le (at' + i) l.base with h | h
    · exact absurd (Or.inl (by omega)) h2
    · exact h
  refine ⟨hlo, ?_⟩
  cases i with
  | zero =>
    have hlo' : l.base ≤ at' := by simpa using hlo
    have ht : termJ l at' = some term := Classical.byContradiction fun e => ga ⟨hlo', e⟩
    have := (termJ_range ht).2
    simpa using this
  | succ i =>
    have hi : i < more.length := by
      rcases Nat.lt_or_ge i more.length with h | h
      · exact h
      · rw [List.getElem?_eq_none (by omega)] at h1; cases h1
    have := h3 i more[i] (by omega) (List.getElem?_eq_getElem hi)
    rcases this with h | h
    · omega
    · have := (termJ_range h).2; omega

set_option maxRecDepth 100000 in
/-- what stands at each place of the joined log -/
theorem join_low {l : Lg} {at' p : Int} {more : List Rec} {i : Nat} (h0 : l.base ≤ at' + i) (h1 : at' + i ≤ l.base + l.rs.length) (hp : p ≤ at' + i) :
    termJ ⟨l.base, l.bt, l.rs.take (at' + i - l.base).toNat ++ more.drop i⟩ p = termJ l p := by
  rcases Int.lt_trichotomy p l.base with h | h | h
  · rw [termJ_lt _ h, termJ_lt _ (by exact h)]
  · subst h; rw [termJ_eq, termJ_eq ⟨l.base, l.bt, _⟩]
  · rw [termJ_at (l := l) h, termJ_at (l := ⟨l.base, l.bt, l.rs.take (at' + i - l.base).toNat ++ more.drop i⟩) h]
    dsimp only
    rw [List.getElem?_append_left (by simp; omega), List.getElem?_take, if_pos (by omega)]
set_option maxRecDepth 100000 in
theorem join_high {l : Lg} {at' : Int} {more : List Rec} {i j : Nat} (h0 : l.base ≤ at' + i) (h1 : at' + i ≤ l.base + l.rs.length) (hj : i ≤ j) :
    termJ ⟨l.base, l.bt, l.rs.take (at' + i - l.base).toNat ++ more.drop i⟩ (at' + 1 + j) = (more[j]?).map Rec.t := by
  rw [termJ_at (by dsimp only; omega)]
  dsimp only
  rw [List.getElem?_append_right (by simp; omega), List.getElem?_drop]
  congr 2
  simp
  omega

set_option maxRecDepth 100000 in
/-- what a merge that fits comes to -/
theorem merge_cases {l : Lg} {at' term : Int} {more : List Rec} (he : (mergeJ l at' term more).e = 0) (hf : (mergeJ l at' term more).f = true) :
    rightJ l = true ∧ rightJ ⟨at', term, more⟩ = true ∧ ¬ (l.base ≤ at' ∧ termJ l at' ≠ some term) ∧ (mergeJ l at' term more).n = max l.base (at' + more.length) ∧
    ((fdJ l at' 0 more = none ∧ (mergeJ l at' term more).l = l) ∨ ∃ i, fdJ l at' 0 more = some i ∧ (l.rs.take (at' + i - l.base).toNat ++ more.drop i).length ≤ 200 ∧ rightJ ⟨l.base, l.bt, l.rs.take (at' + i - l.base).toNat ++ more.drop i⟩ = true ∧ (mergeJ l at' term more).l = ⟨l.base, l.bt, l.rs.take (at' + i - l.base).toNat ++ more.drop i⟩) := by
  cases hr : rightJ l with
  | false => unfold mergeJ at he; rw [hr] at he; simp at he
  | true =>
    cases hr2 : rightJ ⟨at', term, more⟩ with
    | false => unfold mergeJ at he; rw [hr, hr2] at he; simp at he
    | true =>
      by_cases ga : l.base ≤ at' ∧ termJ l at' ≠ some term
      · unfold mergeJ at hf; rw [hr, hr2] at hf; simp [ga] at hf
      · rw [mergeJ_fits hr hr2 ga] at he hf ⊢
        refine ⟨rfl, rfl, ga, ?_⟩
        cases hfd : fdJ l at' 0 more with
        | none => exact ⟨rfl, .inl ⟨rfl, rfl⟩⟩
        | some i =>
          rw [hfd] at he hf
          dsimp only at he hf ⊢
          by_cases g1 : 200 < (l.rs.take (at' + i - l.base).toNat ++ more.drop i).length
          · rw [if_pos g1] at hf; simp at hf
          · rw [if_neg g1] at he hf ⊢
            by_cases g2 : rightJ ⟨l.base, l.bt, l.rs.take (at' + i - l.base).toNat ++ more.drop i⟩ = true
            · rw [if_pos g2]; exact ⟨rfl, .inr ⟨i, rfl, by omega, g2, rfl⟩⟩
            · rw [if_neg g2] at hf; simp at hf

set_option maxRecDepth 100000 in
/-- P15.4 -/
theorem merge_keeps {l : Lg} {at' term : Int} {more : List Rec} (he : (mergeJ l at' term more).e = 0) (hf : (mergeJ l at' term more).f = true) :
    rightJ l = true ∧ rightJ (mergeJ l at' term more).l = true ∧ (∀ (j : Nat) (r : Rec), more[j]? = some r → l.base < at' + 1 + j → termJ (mergeJ l at' term more).l (at' + 1 + j) = some r.t) ∧
    (∀ p, p ≤ at' → termJ (mergeJ l at' term more).l p = termJ l p) ∧ mergeJ (mergeJ l at' term more).l at' term more = mergeJ l at' term more := by
  obtain ⟨hr, hr2, ga, hn, hc⟩ := merge_cases he hf
  rcases hc with ⟨hfd, hl⟩ | ⟨i, hfd, h200, hrr, hl⟩
  · rw [hl]
    refine ⟨hr, hr, fun j r hj hp => ?_, fun _ _ => rfl, rfl⟩
    rcases fdJ_none_all hfd j r hj with h | h
    · omega
    · exact h
  · obtain ⟨h0, h1⟩ := fdJ_place ga hfd
    obtain ⟨r0, _, _, hlow⟩ := fdJ_some_all hfd
    rw [hl]
    have hterms : ∀ (j : Nat) (r : Rec), more[j]? = some r → l.base < at' + 1 + j → termJ ⟨l.base, l.bt, l.rs.take (at' + i - l.base).toNat ++ more.drop i⟩ (at' + 1 + j) = some r.t := by
      intro j r hj hp
      rcases Nat.lt_or_ge j i with h | h
      · rw [join_low h0 h1 (by omega)]
        rcases hlow j r h hj with h' | h'
        · omega
        · exact h'
      · rw [join_high h0 h1 h, hj]; rfl
    have hsame : ∀ p, p ≤ at' → termJ ⟨l.base, l.bt, l.rs.take (at' + i - l.base).toNat ++ more.drop i⟩ p = termJ l p := fun p hp => join_low h0 h1 (by omega)
    refine ⟨hr, hrr, hterms, hsame, ?_⟩
    have ga2 : ¬ (l.base ≤ at' ∧ termJ ⟨l.base, l.bt, l.rs.take (at' + i - l.base).toNat ++ more.drop i⟩ at' ≠ some term) := by
      rw [hsame at' (Int.le_refl _)]; exact ga
    have hfd2 : fdJ ⟨l.base, l.bt, l.rs.take (at' + i - l.base).toNat ++ more.drop i⟩ at' 0 more = none := fdJ_none_of fun j r hj => by
      rcases Int.lt_or_le l.base (at' + 1 + j) with h | h
      · exact .inr (hterms j r hj h)
      · exact .inl h
    rw [mergeJ_fits hrr hr2 ga2, hfd2]
    dsimp only
    rw [mergeJ_fits hr hr2 ga, hfd]
    dsimp only
    rw [if_neg (by omega), if_pos hrr]
end Go.Proofs.YtncdjmpdbinanaaGreatDoor
namespace Go.Proofs.YtncdjmpdbinanaaGreatDoor
open Go.RowKit

set_option maxRecDepth 100000 in
theorem termJ_base (b bt : Int) (rs : List Rec) : termJ ⟨b, bt, rs⟩ b = some bt := termJ_eq ⟨b, bt, rs⟩
def lastT (b bt : Int) (xs : List Rec) : Int := (termJ ⟨b, bt, xs⟩ (b + xs.length)).getD 0
set_option maxRecDepth 100000 in
theorem lastT_snoc {b bt : Int} {xs : List Rec} {r : Rec} : lastT b bt (xs ++ [r]) = r.t := by
  unfold lastT
  rw [termJ_at (by simp only [List.length_append, List.length_singleton]; omega)]
  dsimp only
  rw [show (b + ((xs ++ [r]).length : Int) - b - 1).toNat = xs.length from by simp only [List.length_append, List.length_singleton]; omega]
  simp
set_option maxRecDepth 100000 in
theorem lastT_nil {b bt : Int} : lastT b bt [] = bt := by
  unfold lastT
  simp [termJ]
set_option maxRecDepth 100000 in
theorem snoc_cases (xs : List Rec) : xs = [] ∨ ∃ ys r, xs = ys ++ [r] := by
  rcases List.eq_nil_or_concat xs with h | ⟨ys, r, h⟩
  · exact .inl h
  · exact .inr ⟨ys, r, by simpa using h⟩
set_option maxRecDepth 100000 in
theorem right_split {b bt : Int} {xs ys : List Rec} (hx : rightJ ⟨b, bt, xs⟩ = true) (hl : (xs ++ ys).length ≤ 200) :
    rightJ ⟨b, bt, xs ++ ys⟩ = rightJ ⟨b + xs.length, lastT b bt xs, ys⟩ := by
  have h1 := right_iff.1 hx
  dsimp only at h1
  obtain ⟨a1, a2, a3, a4, a5, a6, a7, a8⟩ := h1
  have hpos := right_pos hx
  dsimp only at hpos
  rw [Bool.eq_iff_iff, right_iff, right_iff]
  dsimp only
  rw [okRecs_append, a8]
  rcases snoc_cases xs with rfl | ⟨zs, r, rfl⟩
  · rw [lastT_nil]
    simp only [List.nil_append, List.length_nil, List.getLast?_nil, Option.map_none, Option.getD_none, Bool.true_and] at *
    constructor
    · rintro ⟨_, _, _, _, _, _, _, h⟩; exact ⟨by omega, by omega, a3, a4, by simpa using a5, hl, by omega, h⟩
    · rintro ⟨_, _, _, _, _, _, _, h⟩; exact ⟨by omega, by omega, a3, a4, by simpa using a5, hl, by omega, h⟩
  · have hr1 : 1 ≤ r.t := hpos r (by simp)
    have hr2 : r.t ≤ 1073741824 := by
      rw [okRecs_append] at a8
      simp only [Bool.and_eq_true] at a8
      have := a8.2
      unfold okRecs inB at this
      split at this
      · rename_i hc
        simp only [Bool.and_eq_true, decide_eq_true_eq] at hc
        omega
      · cases this
    rw [lastT_snoc, show max r.t 1 = r.t from by omega]
    simp only [List.getLast?_append, List.getLast?_singleton, Option.some_or, Option.map_some, Option.getD_some, Bool.true_and, List.length_append, List.length_singleton] at *
    constructor
    · rintro ⟨_, _, _, _, _, _, h7, h⟩; exact ⟨by omega, by omega, by omega, hr2, by omega, by omega, by omega, h⟩
    · rintro ⟨_, _, _, _, _, _, h7, h⟩; exact ⟨by omega, by omega, a3, a4, a5, by omega, by omega, h⟩
set_option maxRecDepth 100000 in
theorem right_pre {b bt : Int} {xs ys : List Rec} (h : rightJ ⟨b, bt, xs ++ ys⟩ = true) : rightJ ⟨b, bt, xs⟩ = true := by
  have h1 := right_iff.1 h
  dsimp only at h1
  obtain ⟨a1, a2, a3, a4, a5, a6, a7, a8⟩ := h1
  rw [okRecs_append] at a8
  simp only [Bool.and_eq_true, List.length_append] at a8 a6 a7
  exact right_iff.2 ⟨a1, a2, a3, a4, a5, by dsimp only; omega, by dsimp only; omega, a8.1⟩

set_option maxRecDepth 100000 in
/-- P15.3 -/
theorem compact_right {l : Lg} {to t : Int} (hr : rightJ l = true) (ht : termJ l to = some t) :
    rightJ ⟨to, t, l.rs.drop (to - l.base).toNat⟩ = true ∧ lastJ ⟨to, t, l.rs.drop (to - l.base).toNat⟩ = lastJ l ∧ ∀ p, to ≤ p → termJ ⟨to, t, l.rs.drop (to - l.base).toNat⟩ p = termJ l p := by
  have hrg := termJ_range ht
  have hbd := right_bounds hr
  obtain ⟨d, hd⟩ : ∃ d, (to - l.base).toNat = d := ⟨_, rfl⟩
  have hto : to = l.base + d := by omega
  have hlen : (l.rs.take d).length = d := by simp; omega
  have hT : lastT l.base l.bt (l.rs.take d) = t := by
    unfold lastT
    rw [hlen, ← hto]
    rcases Int.lt_or_eq_of_le hrg.1 with h | h
    · rw [termJ_at (by exact h)]
      rw [termJ_at h] at ht
      dsimp only
      rw [List.getElem?_take, if_pos (by omega), ht]; rfl
    · rw [← h] at ht ⊢
      rw [termJ_eq] at ht
      rw [termJ_base]; injection ht
  rw [hd]
  have hr' : rightJ ⟨l.base, l.bt, l.rs.take d ++ l.rs.drop d⟩ = true := by rw [List.take_append_drop]; exact hr
  refine ⟨?_, by unfold lastJ; simp; omega, fun p hp => ?_⟩
  · have := right_split (right_pre hr') (ys := l.rs.drop d) (by rw [List.take_append_drop]; omega)
    rw [hr', hT, hlen, ← hto] at this
    exact this.symm
  · rcases Int.lt_or_eq_of_le hp with h | h
    · rw [termJ_at (by exact h), termJ_at (by omega)]
      dsimp only
      rw [List.getElem?_drop]
      congr 2
      omega
    · rw [← h, ht]
      exact termJ_eq ⟨to, t, l.rs.drop d⟩

end Go.Proofs.YtncdjmpdbinanaaGreatDoor
