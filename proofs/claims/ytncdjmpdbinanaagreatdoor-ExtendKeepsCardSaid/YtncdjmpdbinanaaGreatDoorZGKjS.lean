/-
  WHAT IS PROVED HERE: what the reference's Merge hands back where the records fit. Conditions: slices of at most 2^40 records.
  WHAT IS PROVED HERE: what journal.Merge and the reference's Merge hand back; the walk of the law JournalMerges. Conditions: slices of at most 2^42 records.
-/
import Derived.Test.YtncdjmpdbinanaaGreatDoorZGKj2
import Derived.Test.YtncdjmpdbinanaaGreatDoorZGKj7
namespace Go.Proofs.YtncdjmpdbinanaaGreatDoor
open Go.RowKit

/-- where the reference's first loop stands behind k rounds -/
def FdR (l : Lg) (at' : Int) (more : List Rec) (k : Nat) (f : Int) : Prop :=
  (f = -1 ∧ fdJ l at' 0 more = fdJ l at' k (more.drop k)) ∨ (0 ≤ f ∧ f < k ∧ fdJ l at' 0 more = some f.toNat)
set_option maxRecDepth 100000 in
theorem drop_mem {α} {xs : List α} {k : Nat} {r : α} {ys : List α} (h : xs.drop k = r :: ys) : r ∈ xs := List.mem_of_mem_drop (i := k) (by rw [h]; simp)
set_option maxRecDepth 100000 in
theorem take_next {α} {xs : List α} {k : Nat} {r : α} (h : xs.drop k = r :: xs.drop (k + 1)) : xs.take (k + 1) = xs.take k ++ [r] := by
  have hk : k < xs.length := by
    rcases Nat.lt_or_ge k xs.length with h' | h'
    · exact h'
    · rw [List.drop_eq_nil_of_le h'] at h; cases h
  rw [List.take_succ_eq_append_getElem hk]
  rw [List.drop_eq_getElem_cons hk] at h
  injection h with h _
  rw [h]
set_option maxRecDepth 100000 in
theorem take_take_next {α} {xs : List α} {k m : Nat} {r : α} (h : xs.drop k = r :: xs.drop (k + 1)) : (xs.take (k + 1)).take m = if k < m then (xs.take k).take m ++ [r] else (xs.take k).take m := by
  by_cases e : k < m
  · rw [if_pos e, take_next h, List.take_of_length_le (l := xs.take k) (by simp; omega), List.take_of_length_le (by simp; omega)]
  · rw [if_neg e, List.take_take, List.take_take, Nat.min_eq_left (by omega), Nat.min_eq_left (by omega)]
set_option maxRecDepth 100000 in
theorem drop_take_next {α} {xs : List α} {k m : Nat} {r : α} (h : xs.drop k = r :: xs.drop (k + 1)) : (xs.take (k + 1)).drop m = if m ≤ k then (xs.take k).drop m ++ [r] else (xs.take k).drop m := by
  have hk : k < xs.length := by
    rcases Nat.lt_or_ge k xs.length with h' | h'
    · exact h'
    · rw [List.drop_eq_nil_of_le h'] at h; cases h
  by_cases e : m ≤ k
  · rw [if_pos e, take_next h, List.drop_append_of_le_length (by simp; omega)]
  · rw [if_neg e, List.drop_eq_nil_of_le (by simp; omega), List.drop_eq_nil_of_le (by simp; omega)]
set_option maxRecDepth 100000 in
theorem fdJ_none {l : Lg} {at' : Int} : ∀ {rs : List Rec} {i : Nat}, at' + i + rs.length ≤ l.base → fdJ l at' i rs = none
  | [], _, _ => rfl
  | r :: rs, i, h => by
    simp only [List.length_cons] at h
    rw [fdJ, if_pos (.inl (by omega))]
    exact fdJ_none (by omega)
set_option maxRecDepth 100000 in
set_option maxRecDepth 100000 in
set_option maxHeartbeats 3200000 in
theorem refMerge_yes1 (l : Lg) (at' term : Int) (more : List Rec) (A : Option Addr) (n cap : Nat) (A' : Option Addr) (n' cap' : Nat) (w : World) {B : Nat} (hB : B ≤ w.heap.size) (hm : n ≤ 4398046511103) (hm' : n' ≤ 4398046511103) (hcap : n ≤ cap) (_hcap' : n' ≤ cap') (h : Recs w B A n l.rs) (h' : Recs w B A' n' more) (hr : rightJ l = true) (hr2 : rightJ ⟨at', term, more⟩ = true) (gb : at' + n' < l.base) :
    Calls Tryz.prog 99 #[logV l A n cap, .int .i64 at', .int .i64 term, .slice A' n' cap'] w (RetMgR B w (mergeJ l at' term more)) := by
  have hlen := hid_mk h.len
  have hlen' := hid_mk h'.len
  have hX0 := Blk.new w 24 #[.int .i64 l.base, .int .i64 l.bt, .slice A n cap]
  have hY0 := Blk.new (w.alloc (.cells #[.int .i64 l.base, .int .i64 l.bt, .slice A n cap] 24)) 24 #[.int .i64 0, .int .i64 0, .slice none 0 0]
  have hN0 := Blk.new ((w.alloc (.cells #[.int .i64 l.base, .int .i64 l.bt, .slice A n cap] 24)).alloc (.cells #[.int .i64 0, .int .i64 0, .slice none 0 0] 24)) 24 #[.int .i64 0, .int .i64 0, .slice none 0 0]
  simp only [World.size_alloc] at hY0 hN0
  have hX := hid_mk ((hX0.alloc (.cells #[.int .i64 0, .int .i64 0, .slice none 0 0] 24)).alloc (.cells #[.int .i64 0, .int .i64 0, .slice none 0 0] 24))
  have hY := hid_mk (hY0.alloc (.cells #[.int .i64 0, .int .i64 0, .slice none 0 0] 24))
  have hN := hid_mk (hN0)
  clear hX0 hY0 hN0
  have hbd := right_bounds hr
  have hbd2 := right_bounds hr2
  dsimp only at hbd2
  have hln := hlen.out
  have hln' := hlen'.out
  have hn200 : n ≤ 200 := by omega
  have hn200' : n' ≤ 200 := by omega
  have gb1 : at' < l.base := by omega
  have ga : ¬ (l.base ≤ at' ∧ termJ l at' ≠ some term) := by omega
  have g0 : at' ≤ l.base + n := by omega
  have hz := hid_mk (mergeJ_fits hr hr2 ga)
  obtain ⟨mg, hmg⟩ : ∃ mg, mergeJ l at' term more = mg := ⟨_, rfl⟩
  rw [hmg]
  replace hz := hid_mk (hmg.symm.trans hz.out)
  clear hmg ga
  have hla : Hid (lastJ l = l.base + n) := by unfold Hid lastJ; rw [hln]
  clear hln hln' 
  replace hr := hid_mk hr
  replace hr2 := hid_mk hr2
  rw [logV_eq]
  refine calls_of_wpQ Tryz.func99 rfl ?_
  intro Q hQ
  simp only [Tryz.ntmps99, List.size_toArray, List.length_cons, List.length_nil, Nat.reduceAdd, Nat.reduceSub, Array.replicate_succ, Array.replicate_zero, List.push_toArray, List.append_toArray, List.nil_append, List.cons_append]
  go_wp2_with fail
  try rw [← logV_eq]
  refine (refRight_any l _ _ _ _ (by omega) (h.to (by go_grown))).mono ?_
  rw [hr.out]
  rintro e w1 ⟨rfl, hb⟩
  have q1 := (after (w := w) hb (by go_grown)).1
  replace hX := hid_mk (hX.out.keep (after hb (by go_grown)).1)
  replace hY := hid_mk (hY.out.keep (after hb (by go_grown)).1)
  replace hN := hid_mk (hN.out.keep (after hb (by go_grown)).1)
  have hs1 := hb.size; try simp only [World.size_alloc] at hs1; clear hb
  go_wp2_with fail
  rw [logV_mk at' term more]
  refine (refRight_any ⟨at', term, more⟩ _ _ _ _ (by omega) (h'.to (by go_grown))).mono ?_
  rw [hr2.out]
  rintro e w2 ⟨rfl, hb⟩
  have q2 := (after (w := w) hb (by go_grown)).1
  replace hX := hid_mk (hX.out.keep (after hb (by go_grown)).1)
  replace hY := hid_mk (hY.out.keep (after hb (by go_grown)).1)
  replace hN := hid_mk (hN.out.keep (after hb (by go_grown)).1)
  have hs2 := hb.size; try simp only [World.size_alloc] at hs2; clear hb
  obtain ⟨hgx, x0, x1, x2⟩ := blk3 hX.out
  go_wp2_with fail
  try rw [← logV_eq]
  refine (refLast_any l _ _ _ _ (by omega) hlen.out hbd.1 hbd.2.1).mono ?_
  rw [hla.out]
  rintro e w3 ⟨rfl, hb⟩
  have q3 := (after (w := w) hb (by go_grown)).1
  replace hX := hid_mk (hX.out.keep (after hb (by go_grown)).1)
  replace hY := hid_mk (hY.out.keep (after hb (by go_grown)).1)
  replace hN := hid_mk (hN.out.keep (after hb (by go_grown)).1)
  clear hgx x0 x1 x2
  obtain ⟨hgx, x0, x1, x2⟩ := blk3 hX.out
  have hs3 := hb.size; try simp only [World.size_alloc] at hs3; clear hb
  clear hgx x0 x1 x2
  obtain ⟨hgx, x0, x1, x2⟩ := blk3 hX.out
  go_wp2
  go_loopw [15, 75] (fun f i wr => ∃ (k : Nat) (fi : Int), k ≤ n' ∧ i = .int .i64 k ∧ f = .int .i64 fi ∧ -1 ≤ fi ∧ fi < n' ∧ Below w3.heap.size w3 wr ∧ Hid (FdR l at' more k fi)) (fun _ i _ => n' - (intOf i).toNat)
  case atStart => exact ⟨0, -1, Nat.zero_le _, rfl, rfl, by omega, by omega, Below.refl _ _, .inl ⟨rfl, by simp⟩⟩
  case round =>
    obtain ⟨k, fi, hk, rfl, rfl, hf1, hf2, hb, hn⟩ := hrel
    have hwz := hb.size
    replace hX := hid_mk (hX.out.keep hb)
    replace hY := hid_mk (hY.out.keep hb)
    replace hN := hid_mk (hN.out.keep hb)
    clear hgx x0 x1 x2
    obtain ⟨hgx, x0, x1, x2⟩ := blk3 hX.out
    have qr : Below w.heap.size w wr := q3.trans (hb.mono q3.size)
    by_cases hlt : k < n'
    · obtain ⟨b, o, r, rfl, hbb, hd, ct, ck, cd⟩ := (h'.to qr).at_ hlt
      have hrp := (right_pos hr2.out) r (drop_mem hd.out)
      obtain ⟨rt, rk, rd⟩ := r
      dsimp only at ct ck cd hrp
      have hb3 := hid_mk hb
      rcases (by omega : fi < 0 ∨ 0 ≤ fi) with hf0 | hf0
      case inr =>
        have hff : decide (fi < 0) = false := by simpa using hf0
        go_wp2
        go_quiet (fail)
        go_wp2
        go_roundw
        case rel =>
          refine ⟨k + 1, fi, by omega, by go_num, rfl, hf1, hf2, below_drewN (by go_grown) _, ?_⟩
          rcases hn.out with ⟨e, _⟩ | ⟨e1, e2, e3⟩
          · omega
          · exact .inr ⟨e1, by omega, e3⟩
        case measure => simp [intOf]; omega
      obtain rfl : fi = -1 := by omega
      have hn2 : Hid (fdJ l at' 0 more = fdJ l at' k (more.drop k)) := by
        rcases hn.out with ⟨_, e⟩ | ⟨e1, _, _⟩
        · exact e
        · omega
      clear hn hf0 hf1
      have p1 : at' + 1 + k ≤ l.base := by omega
      have hff : decide (l.base < at' + 1 + k) = false := by simpa using p1
      go_wp2
      go_quiet (fail)
      go_wp2
      go_roundw
      case rel => exact ⟨k + 1, -1, by omega, by go_num, rfl, by omega, by omega, below_drewN (by go_grown) _, .inl ⟨rfl, by rw [hn2.out, hd.out, fdJ, if_pos (.inl p1)]⟩⟩
      case measure => simp [intOf]; omega
    · skip
      have he := hid_mk (h'.end_ hlt)
      obtain rfl : n' = k := by omega
      clear hlt
      rcases (by omega : fi < 0 ∨ 0 ≤ fi) with hf0 | hf0
      case inl =>
        have hfd : Hid (fdJ l at' 0 more = none) := by
          rcases hn.out with ⟨_, e⟩ | ⟨e1, _, _⟩
          · rw [Hid, e, he.out]; rfl
          · omega
        clear hgx x0 x1 x2
        obtain ⟨hgx, x0, x1, x2⟩ := blk3 hX.out
        obtain ⟨hgy, y0, y1, y2, e0, e1, e2⟩ := blk3f hY.out
        go_wp2
        try simp only [Exit.inBlock, Exit.then]
        refine ends_ret hQ (v := .tuple #[.agg #[.int .i64 l.base, .int .i64 l.bt, .slice A n cap], .int .i64 l.base, .bool true, .int .i64 0]) (by simp [results, Tryz.results99, go_sem, y0, y1, y2]) rfl ?_
        rw [hz.out, hfd.out]
        dsimp only
        rw [hlen'.out, Int.max_eq_left (by omega)]
        exact ⟨A, n, cap, rfl, set3_reads hY.out _ _ _ (by omega) (by decide) (h.to qr), hcap, set3_below _ _ _ qr (by simp)⟩
      obtain ⟨f, rfl⟩ : ∃ f : Nat, fi = f := ⟨fi.toNat, by omega⟩
      have hfd : Hid (fdJ l at' 0 more = some f) := by
        rcases hn.out with ⟨e, _⟩ | ⟨_, _, e⟩
        · omega
        · rw [Hid, e]; rfl
      clear hn he hf0 hf1
      have hno := fdJ_none (l := l) (at' := at') (i := 0) (rs := more) (by rw [hlen'.out]; omega)
      rw [hfd.out] at hno
      cases hno
set_option maxRecDepth 100000 in
set_option maxRecDepth 100000 in
set_option maxHeartbeats 3200000 in
theorem refMerge_yes2 (l : Lg) (at' term : Int) (more : List Rec) (A : Option Addr) (n cap : Nat) (A' : Option Addr) (n' cap' : Nat) (w : World) {B : Nat} (hB : B ≤ w.heap.size) (hm : n ≤ 4398046511103) (hm' : n' ≤ 4398046511103) (hcap : n ≤ cap) (_hcap' : n' ≤ cap') (h : Recs w B A n l.rs) (h' : Recs w B A' n' more) (hr : rightJ l = true) (hr2 : rightJ ⟨at', term, more⟩ = true) (gb : at' < l.base ∧ l.base ≤ at' + n') :
    Calls Tryz.prog 99 #[logV l A n cap, .int .i64 at', .int .i64 term, .slice A' n' cap'] w (RetMgR B w (mergeJ l at' term more)) := by
  have hlen := hid_mk h.len
  have hlen' := hid_mk h'.len
  have hX0 := Blk.new w 24 #[.int .i64 l.base, .int .i64 l.bt, .slice A n cap]
  have hY0 := Blk.new (w.alloc (.cells #[.int .i64 l.base, .int .i64 l.bt, .slice A n cap] 24)) 24 #[.int .i64 0, .int .i64 0, .slice none 0 0]
  have hN0 := Blk.new ((w.alloc (.cells #[.int .i64 l.base, .int .i64 l.bt, .slice A n cap] 24)).alloc (.cells #[.int .i64 0, .int .i64 0, .slice none 0 0] 24)) 24 #[.int .i64 0, .int .i64 0, .slice none 0 0]
  simp only [World.size_alloc] at hY0 hN0
  have hX := hid_mk ((hX0.alloc (.cells #[.int .i64 0, .int .i64 0, .slice none 0 0] 24)).alloc (.cells #[.int .i64 0, .int .i64 0, .slice none 0 0] 24))
  have hY := hid_mk (hY0.alloc (.cells #[.int .i64 0, .int .i64 0, .slice none 0 0] 24))
  have hN := hid_mk (hN0)
  clear hX0 hY0 hN0
  have hbd := right_bounds hr
  have hbd2 := right_bounds hr2
  dsimp only at hbd2
  have hln := hlen.out
  have hln' := hlen'.out
  have hn200 : n ≤ 200 := by omega
  have hn200' : n' ≤ 200 := by omega
  have gb1 : at' < l.base := by omega
  have ga : ¬ (l.base ≤ at' ∧ termJ l at' ≠ some term) := by omega
  have g0 : at' ≤ l.base + n := by omega
  have hz := hid_mk (mergeJ_fits hr hr2 ga)
  obtain ⟨mg, hmg⟩ : ∃ mg, mergeJ l at' term more = mg := ⟨_, rfl⟩
  rw [hmg]
  replace hz := hid_mk (hmg.symm.trans hz.out)
  clear hmg ga
  have hla : Hid (lastJ l = l.base + n) := by unfold Hid lastJ; rw [hln]
  clear hln hln' 
  replace hr := hid_mk hr
  replace hr2 := hid_mk hr2
  rw [logV_eq]
  refine calls_of_wpQ Tryz.func99 rfl ?_
  intro Q hQ
  simp only [Tryz.ntmps99, List.size_toArray, List.length_cons, List.length_nil, Nat.reduceAdd, Nat.reduceSub, Array.replicate_succ, Array.replicate_zero, List.push_toArray, List.append_toArray, List.nil_append, List.cons_append]
  go_wp2_with fail
  try rw [← logV_eq]
  refine (refRight_any l _ _ _ _ (by omega) (h.to (by go_grown))).mono ?_
  rw [hr.out]
  rintro e w1 ⟨rfl, hb⟩
  have q1 := (after (w := w) hb (by go_grown)).1
  replace hX := hid_mk (hX.out.keep (after hb (by go_grown)).1)
  replace hY := hid_mk (hY.out.keep (after hb (by go_grown)).1)
  replace hN := hid_mk (hN.out.keep (after hb (by go_grown)).1)
  have hs1 := hb.size; try simp only [World.size_alloc] at hs1; clear hb
  go_wp2_with fail
  rw [logV_mk at' term more]
  refine (refRight_any ⟨at', term, more⟩ _ _ _ _ (by omega) (h'.to (by go_grown))).mono ?_
  rw [hr2.out]
  rintro e w2 ⟨rfl, hb⟩
  have q2 := (after (w := w) hb (by go_grown)).1
  replace hX := hid_mk (hX.out.keep (after hb (by go_grown)).1)
  replace hY := hid_mk (hY.out.keep (after hb (by go_grown)).1)
  replace hN := hid_mk (hN.out.keep (after hb (by go_grown)).1)
  have hs2 := hb.size; try simp only [World.size_alloc] at hs2; clear hb
  obtain ⟨hgx, x0, x1, x2⟩ := blk3 hX.out
  go_wp2_with fail
  try rw [← logV_eq]
  refine (refLast_any l _ _ _ _ (by omega) hlen.out hbd.1 hbd.2.1).mono ?_
  rw [hla.out]
  rintro e w3 ⟨rfl, hb⟩
  have q3 := (after (w := w) hb (by go_grown)).1
  replace hX := hid_mk (hX.out.keep (after hb (by go_grown)).1)
  replace hY := hid_mk (hY.out.keep (after hb (by go_grown)).1)
  replace hN := hid_mk (hN.out.keep (after hb (by go_grown)).1)
  clear hgx x0 x1 x2
  obtain ⟨hgx, x0, x1, x2⟩ := blk3 hX.out
  have hs3 := hb.size; try simp only [World.size_alloc] at hs3; clear hb
  clear hgx x0 x1 x2
  obtain ⟨hgx, x0, x1, x2⟩ := blk3 hX.out
  go_wp2
  go_loopw [15, 75] (fun f i wr => ∃ (k : Nat) (fi : Int), k ≤ n' ∧ i = .int .i64 k ∧ f = .int .i64 fi ∧ -1 ≤ fi ∧ fi < n' ∧ Below w3.heap.size w3 wr ∧ Hid (FdR l at' more k fi)) (fun _ i _ => n' - (intOf i).toNat)
  case atStart => exact ⟨0, -1, Nat.zero_le _, rfl, rfl, by omega, by omega, Below.refl _ _, .inl ⟨rfl, by simp⟩⟩
  case round =>
    obtain ⟨k, fi, hk, rfl, rfl, hf1, hf2, hb, hn⟩ := hrel
    have hwz := hb.size
    replace hX := hid_mk (hX.out.keep hb)
    replace hY := hid_mk (hY.out.keep hb)
    replace hN := hid_mk (hN.out.keep hb)
    clear hgx x0 x1 x2
    obtain ⟨hgx, x0, x1, x2⟩ := blk3 hX.out
    have qr : Below w.heap.size w wr := q3.trans (hb.mono q3.size)
    by_cases hlt : k < n'
    · obtain ⟨b, o, r, rfl, hbb, hd, ct, ck, cd⟩ := (h'.to qr).at_ hlt
      have hrp := (right_pos hr2.out) r (drop_mem hd.out)
      obtain ⟨rt, rk, rd⟩ := r
      dsimp only at ct ck cd hrp
      have hb3 := hid_mk hb
      rcases (by omega : fi < 0 ∨ 0 ≤ fi) with hf0 | hf0
      case inr =>
        have hff : decide (fi < 0) = false := by simpa using hf0
        go_wp2
        go_quiet (fail)
        go_wp2
        go_roundw
        case rel =>
          refine ⟨k + 1, fi, by omega, by go_num, rfl, hf1, hf2, below_drewN (by go_grown) _, ?_⟩
          rcases hn.out with ⟨e, _⟩ | ⟨e1, e2, e3⟩
          · omega
          · exact .inr ⟨e1, by omega, e3⟩
        case measure => simp [intOf]; omega
      obtain rfl : fi = -1 := by omega
      have hn2 : Hid (fdJ l at' 0 more = fdJ l at' k (more.drop k)) := by
        rcases hn.out with ⟨_, e⟩ | ⟨e1, _, _⟩
        · exact e
        · omega
      clear hn hf0 hf1
      by_cases p1 : at' + 1 + k ≤ l.base
      · skip
        have hff : decide (l.base < at' + 1 + k) = false := by simpa using p1
        go_wp2
        go_quiet (fail)
        go_wp2
        go_roundw
        case rel => exact ⟨k + 1, -1, by omega, by go_num, rfl, by omega, by omega, below_drewN (by go_grown) _, .inl ⟨rfl, by rw [hn2.out, hd.out, fdJ, if_pos (.inl p1)]⟩⟩
        case measure => simp [intOf]; omega
      have p1' : l.base < at' + 1 + k := by omega
      have hRr := hid_mk (Blk.new wr 51 #[.int .i64 rt, .int .i64 rk, .string rd])
      go_wp2_with fail
      clear hgx x0 x1 x2
      obtain ⟨hgx, x0, x1, x2⟩ := blk3 hX.out
      obtain ⟨hgr, r0, r1, r2⟩ := blk3 hRr.out
      have hw2 : IntKind.i64.wrap (at' + 1) = at' + 1 := IntWalk.i64_in _ (by omega)
      have hw3 : IntKind.i64.wrap (at' + 1 + k) = at' + 1 + k := IntWalk.i64_in _ (by omega)
      cases hpt : termJ l (at' + 1 + k)
      case none =>
        have hne : ((-1 : Int) != rt) = true := by simp; omega
        have hfd : Hid (¬ (at' + 1 + k ≤ l.base ∨ termJ l (at' + 1 + k) = some rt)) := by unfold Hid; rw [hpt]; simp; omega
        replace hpt := hid_mk hpt
        go_region_held3 (fun w' => w'.cell? ⟨w.heap.size, 0, none⟩ = some (.int .i64 l.base) ∧ w'.cell? ⟨w.heap.size, 1, none⟩ = some (.int .i64 l.bt) ∧ w'.cell? ⟨w.heap.size, 2, none⟩ = some (.slice A n cap) ∧ w'.cell? ⟨wr.heap.size, 0, none⟩ = some (.int .i64 rt)) ((first | (refine ⟨?_, ?_, ?_, ?_⟩ <;> assumption) | go_keep)) (first | (go_at_call 91; refine (refTerm_any l _ A n cap _ (by omega) (h.to (by go_grown)) hbd.1 hbd.2.1).mono ?_; rw [hpt.out, Option.getD_none]; rintro e w5 ⟨rfl, hb⟩; have q5 := (after (w := w) hb (by go_grown)).1; replace hX := hid_mk (hX.out.keep (after hb (by go_grown)).1); replace hY := hid_mk (hY.out.keep (after hb (by go_grown)).1); replace hN := hid_mk (hN.out.keep (after hb (by go_grown)).1); replace hRr := hid_mk (hRr.out.keep (after hb (by go_grown)).1); clear hgx x0 x1 x2 hgr r0 r1 r2; obtain ⟨hgx, x0, x1, x2⟩ := blk3 hX.out; obtain ⟨hgr, r0, r1, r2⟩ := blk3 hRr.out; have r5 := (after (w := w3) hb (by go_grown)).1; have hs5 := hb.size; clear hb))
        go_wp2
        go_roundw
        case rel => exact ⟨k + 1, k, by omega, by go_num, rfl, by omega, by omega, r5, .inr ⟨by omega, by omega, by rw [hn2.out, hd.out, fdJ, if_neg hfd.out]; rfl⟩⟩
        case measure => simp [intOf]; omega
      case some t1 =>
        by_cases p2 : t1 = rt
        · obtain rfl : rt = t1 := p2.symm
          have hpt2 := hid_mk hpt
          replace hpt := hid_mk hpt
          go_region_held3 (fun w' => w'.cell? ⟨w.heap.size, 0, none⟩ = some (.int .i64 l.base) ∧ w'.cell? ⟨w.heap.size, 1, none⟩ = some (.int .i64 l.bt) ∧ w'.cell? ⟨w.heap.size, 2, none⟩ = some (.slice A n cap) ∧ w'.cell? ⟨wr.heap.size, 0, none⟩ = some (.int .i64 rt)) ((first | (refine ⟨?_, ?_, ?_, ?_⟩ <;> assumption) | go_keep)) (first | (go_at_call 91; refine (refTerm_any l _ A n cap _ (by omega) (h.to (by go_grown)) hbd.1 hbd.2.1).mono ?_; rw [hpt.out, Option.getD_some]; rintro e w4 ⟨rfl, hb⟩; have q4 := (after (w := w) hb (by go_grown)).1; replace hX := hid_mk (hX.out.keep (after hb (by go_grown)).1); replace hY := hid_mk (hY.out.keep (after hb (by go_grown)).1); replace hN := hid_mk (hN.out.keep (after hb (by go_grown)).1); replace hRr := hid_mk (hRr.out.keep (after hb (by go_grown)).1); clear hgx x0 x1 x2 hgr r0 r1 r2; obtain ⟨hgx, x0, x1, x2⟩ := blk3 hX.out; obtain ⟨hgr, r0, r1, r2⟩ := blk3 hRr.out; have r5 := (after (w := w3) hb (by go_grown)).1; have hs4 := hb.size; clear hb))
          go_wp2
          go_roundw
          case rel => exact ⟨k + 1, -1, by omega, by go_num, rfl, by omega, by omega, r5, .inl ⟨rfl, by rw [hn2.out, hd.out, fdJ, if_pos (.inr hpt2.out)]⟩⟩
          case measure => simp [intOf]; omega
        · have hne : (t1 != rt) = true := by simpa using p2
          have hfd : Hid (¬ (at' + 1 + k ≤ l.base ∨ termJ l (at' + 1 + k) = some rt)) := by unfold Hid; rw [hpt]; simp; exact ⟨by omega, p2⟩
          replace hpt := hid_mk hpt
          replace p2 := hid_mk p2
          go_region_held3 (fun w' => w'.cell? ⟨w.heap.size, 0, none⟩ = some (.int .i64 l.base) ∧ w'.cell? ⟨w.heap.size, 1, none⟩ = some (.int .i64 l.bt) ∧ w'.cell? ⟨w.heap.size, 2, none⟩ = some (.slice A n cap) ∧ w'.cell? ⟨wr.heap.size, 0, none⟩ = some (.int .i64 rt)) ((first | (refine ⟨?_, ?_, ?_, ?_⟩ <;> assumption) | go_keep)) (first | (go_at_call 91; refine (refTerm_any l _ A n cap _ (by omega) (h.to (by go_grown)) hbd.1 hbd.2.1).mono ?_; rw [hpt.out, Option.getD_some]; rintro e w4 ⟨rfl, hb⟩; have q4 := (after (w := w) hb (by go_grown)).1; replace hX := hid_mk (hX.out.keep (after hb (by go_grown)).1); replace hY := hid_mk (hY.out.keep (after hb (by go_grown)).1); replace hN := hid_mk (hN.out.keep (after hb (by go_grown)).1); replace hRr := hid_mk (hRr.out.keep (after hb (by go_grown)).1); clear hgx x0 x1 x2 hgr r0 r1 r2; obtain ⟨hgx, x0, x1, x2⟩ := blk3 hX.out; obtain ⟨hgr, r0, r1, r2⟩ := blk3 hRr.out; have r5 := (after (w := w3) hb (by go_grown)).1; have hs4 := hb.size; clear hb))
          go_wp2
          go_roundw
          case rel => exact ⟨k + 1, k, by omega, by go_num, rfl, by omega, by omega, r5, .inr ⟨by omega, by omega, by rw [hn2.out, hd.out, fdJ, if_neg hfd.out]; rfl⟩⟩
          case measure => simp [intOf]; omega
    · skip
      have he := hid_mk (h'.end_ hlt)
      obtain rfl : n' = k := by omega
      clear hlt
      rcases (by omega : fi < 0 ∨ 0 ≤ fi) with hf0 | hf0
      case inl =>
        have hfd : Hid (fdJ l at' 0 more = none) := by
          rcases hn.out with ⟨_, e⟩ | ⟨e1, _, _⟩
          · rw [Hid, e, he.out]; rfl
          · omega
        clear hgx x0 x1 x2
        obtain ⟨hgx, x0, x1, x2⟩ := blk3 hX.out
        obtain ⟨hgy, y0, y1, y2, e0, e1, e2⟩ := blk3f hY.out
        go_wp2
        try simp only [Exit.inBlock, Exit.then]
        refine ends_ret hQ (v := .tuple #[.agg #[.int .i64 l.base, .int .i64 l.bt, .slice A n cap], .int .i64 (at' + n'), .bool true, .int .i64 0]) (by simp [results, Tryz.results99, go_sem, y0, y1, y2]) rfl ?_
        rw [hz.out, hfd.out]
        dsimp only
        rw [hlen'.out, Int.max_eq_right (by omega)]
        exact ⟨A, n, cap, rfl, set3_reads hY.out _ _ _ (by omega) (by decide) (h.to qr), hcap, set3_below _ _ _ qr (by simp)⟩
      obtain ⟨f, rfl⟩ : ∃ f : Nat, fi = f := ⟨fi.toNat, by omega⟩
      have hfd : Hid (fdJ l at' 0 more = some f) := by
        rcases hn.out with ⟨e, _⟩ | ⟨_, _, e⟩
        · omega
        · rw [Hid, e]; rfl
      clear hn he hf0 hf1
      obtain ⟨i0, hi0, hz0, hz1, hz2⟩ := info_parts recInfo
      obtain ⟨m, hm0⟩ : ∃ m, (at' + f - l.base).toNat = m := ⟨_, rfl⟩
      replace hm0 := hid_mk hm0
      obtain ⟨wo, rfl⟩ : ∃ wo : World, wo = wr := ⟨_, rfl⟩
      have hwo := qr
      have hZ0 := hid_mk (Blk.new wo 24 #[.int .i64 l.base, .int .i64 l.bt, .slice none 0 0])
      have hXo := hX
      have hYo := hY
      have hNo := hN
      clear qr hb hwz
      clear hgx x0 x1 x2
      obtain ⟨hgx, x0, x1, x2⟩ := blk3 hX.out
      go_wp2
      go_loopw [116] (fun i wr => ∃ (k : Nat) (v : Value) (out : List Rec), k ≤ n ∧ i = .int .i64 k ∧ wr.ownsRow wo.heap.size 51 3 v out.length (cellsOf out) ∧ Below wo.heap.size wo wr ∧ Hid (Blk wr wo.heap.size 24 #[.int .i64 l.base, .int .i64 l.bt, v]) ∧ Hid (out = (l.rs.take k).take m)) (fun i _ => n - (intOf i).toNat)
      case atStart => exact ⟨0, .slice none 0 0, [], Nat.zero_le _, rfl, World.ownsRow_nil _ _ _ _, (Below.refl _ _).alloc (Nat.le_refl _) _, hZ0, by simp [Hid]⟩
      case round =>
        obtain ⟨k, v, out, hk, rfl, hown1, hb, hZ, hn⟩ := hrel
        have hwz := hb.size
        have hok : out.length ≤ 400 := by rw [hn.out]; simp; omega
        obtain ⟨A1, cp1, rfl, hc11, -⟩ := own_slice hown1
        replace hX := hid_mk (hX.out.keep hb)
        replace hY := hid_mk (hY.out.keep hb)
        replace hN := hid_mk (hN.out.keep hb)
        clear hgx x0 x1 x2
        obtain ⟨hgx, x0, x1, x2⟩ := blk3 hX.out
        have qr : Below w.heap.size w wr := hwo.trans (hb.mono hwo.size)
        obtain ⟨hgz, z0, z1, z2, f0, f1, f2⟩ := blk3f hZ.out
        by_cases hlt : k < n
        case pos =>
          obtain ⟨b, o, r, rfl, hbb, hd, ct, ck, cd⟩ := (h.to qr).at_ hlt
          obtain ⟨rt, rk, rd⟩ := r
          dsimp only at ct ck cd
          by_cases g1 : l.base + 1 + k < at' + 1 + f
          case pos =>
            have hnew : Reads ((wr.alloc (.cells #[.int .i64 rt, .int .i64 rk, .string rd] 51)).alloc (.cells #[.int .i64 rt, .int .i64 rk, .string rd] 51)) B 51 3 (some ⟨wr.heap.size + 1, 0, none⟩) 1 [.int .i64 rt, .int .i64 rk, .string rd] := by
              have := reads_new (wr.alloc (.cells #[.int .i64 rt, .int .i64 rk, .string rd] 51)) #[.int .i64 rt, .int .i64 rk, .string rd] 51 1 3 B rfl
              simpa using this
            go_wp2_with (at_builtin; refine wpList_append_any _ rfl (.tmp 132) (.tmp 134) _ rfl wo.heap.size 51 i0 _ 3 32 Tryz.underlying22 hi0 hz0 hz1 hz2 rfl (by omega) _ out.length (cellsOf out) rfl ((hown1.alloc _).alloc _) B (some ⟨wr.heap.size + 1, 0, none⟩) 1 1 [.int .i64 rt, .int .i64 rk, .string rd] rfl hnew (rec_one [⟨rt, rk, rd⟩]) (by simp only [maxLen]; omega) (by omega) (by simp; omega) ?_; intro v1 w9 hown2 hg2 hat2; have hZ2 := hid_mk (Blk.grown ((hZ.out.alloc (.cells #[.int .i64 rt, .int .i64 rk, .string rd] 51)).alloc (.cells #[.int .i64 rt, .int .i64 rk, .string rd] 51)) hg2 (own_ne hown1 hZ.out)); clear hgz z0 z1 z2 f0 f1 f2; obtain ⟨hgz, z0, z1, z2, f0, f1, f2⟩ := blk3f hZ2.out; obtain ⟨Av, cv, rfl, hcv1, hcv2⟩ := own_slice hown2)
            have hb1 : Below wo.heap.size wo w9 := by
              refine Below.grown ((hb.alloc hb.size _).alloc (by simp; have := hb.size; omega) _) hg2 (by simp; have := hb.size; omega) (fun k hk => ?_)
              exact (hown1.lt k hk).1
            go_roundw
            case rel =>
              refine ⟨k + 1, _, out ++ [⟨rt, rk, rd⟩], by omega, by go_num, ?_, hb1.setCell (p := ⟨wo.heap.size, 2, none⟩) (Nat.le_refl _) _, hid_mk (hZ2.out.set_ 2 _), by rw [Hid, hn.out]; rw [take_take_next hd.out, if_pos (by have := hm0.out; omega)]⟩
              have := own_far hown2 hZ2.out (by decide) 2 (.slice Av (out.length + 1) cv)
              simpa [cellsOf, recCells] using this
            case measure => simp [intOf]; omega
          case neg =>
            go_wp2
            go_roundw
            case rel => exact ⟨k + 1, _, out, by omega, by go_num, hown1.alloc _, hb.alloc hb.size _, hid_mk (hZ.out.alloc _), by rw [Hid, hn.out]; rw [take_take_next hd.out, if_neg (by have := hm0.out; omega)]⟩
            case measure => simp [intOf]; omega
        case neg =>
          obtain rfl : n = k := by omega
          clear hlt
          have hn1 : Hid (out = l.rs.take m) := by rw [Hid, hn.out, List.take_of_length_le (l := l.rs) (by rw [hlen.out]; exact Nat.le_refl _)]
          clear hn
          obtain ⟨wp, rfl⟩ : ∃ wp : World, wp = wr := ⟨_, rfl⟩
          obtain ⟨out1, rfl⟩ : ∃ o, o = out := ⟨_, rfl⟩
          clear qr hwz hok
          go_wp2
          go_loopw [140] (fun i wr => ∃ (k : Nat) (v : Value) (out : List Rec), k ≤ n' ∧ i = .int .i64 k ∧ wr.ownsRow wo.heap.size 51 3 v out.length (cellsOf out) ∧ Below wo.heap.size wo wr ∧ Hid (Blk wr wo.heap.size 24 #[.int .i64 l.base, .int .i64 l.bt, v]) ∧ Hid (out = out1 ++ (more.take k).drop f)) (fun i _ => n' - (intOf i).toNat)
          case atStart => exact ⟨0, _, out1, Nat.zero_le _, rfl, hown1, hb, hZ, by simp [Hid]⟩
          case round =>
            have ho1 : out1.length ≤ 200 := by rw [hn1.out]; simp; have := hlen.out; omega
            clear hown1 hb hZ hgz z0 z1 z2 f0 f1 f2 hc11
            obtain ⟨k, v, out, hk, rfl, hown1, hb, hZ, hn⟩ := hrel
            have hwz := hb.size
            have hok : out.length ≤ 400 := by rw [hn.out]; simp; omega
            obtain ⟨A1, cp1, rfl, hc11, -⟩ := own_slice hown1
            obtain ⟨hX1, hY1, hN1⟩ : Hid (Blk wr w.heap.size 24 #[.int .i64 l.base, .int .i64 l.bt, .slice A n cap]) ∧ Hid (Blk wr (w.heap.size + 1) 24 #[.int .i64 0, .int .i64 0, .slice none 0 0]) ∧ Hid (Blk wr (w.heap.size + 2) 24 #[.int .i64 0, .int .i64 0, .slice none 0 0]) := ⟨hXo.out.keep hb, hYo.out.keep hb, hNo.out.keep hb⟩
            have qr : Below w.heap.size w wr := hwo.trans (hb.mono hwo.size)
            obtain ⟨hgz, z0, z1, z2, f0, f1, f2⟩ := blk3f hZ.out
            by_cases hlt : k < n'
            case pos =>
              obtain ⟨b, o, r, rfl, hbb, hd, ct, ck, cd⟩ := (h'.to qr).at_ hlt
              obtain ⟨rt, rk, rd⟩ := r
              dsimp only at ct ck cd
              by_cases g1 : f ≤ k
              case pos =>
                have hnew : Reads ((wr.alloc (.cells #[.int .i64 rt, .int .i64 rk, .string rd] 51)).alloc (.cells #[.int .i64 rt, .int .i64 rk, .string rd] 51)) B 51 3 (some ⟨wr.heap.size + 1, 0, none⟩) 1 [.int .i64 rt, .int .i64 rk, .string rd] := by
                  have := reads_new (wr.alloc (.cells #[.int .i64 rt, .int .i64 rk, .string rd] 51)) #[.int .i64 rt, .int .i64 rk, .string rd] 51 1 3 B rfl
                  simpa using this
                go_wp2_with (at_builtin; refine wpList_append_any _ rfl (.tmp 149) (.tmp 151) _ rfl wo.heap.size 51 i0 _ 3 32 Tryz.underlying22 hi0 hz0 hz1 hz2 rfl (by omega) _ out.length (cellsOf out) rfl ((hown1.alloc _).alloc _) B (some ⟨wr.heap.size + 1, 0, none⟩) 1 1 [.int .i64 rt, .int .i64 rk, .string rd] rfl hnew (rec_one [⟨rt, rk, rd⟩]) (by simp only [maxLen]; omega) (by omega) (by simp; omega) ?_; intro v1 w9 hown2 hg2 hat2; have hZ2 := hid_mk (Blk.grown ((hZ.out.alloc (.cells #[.int .i64 rt, .int .i64 rk, .string rd] 51)).alloc (.cells #[.int .i64 rt, .int .i64 rk, .string rd] 51)) hg2 (own_ne hown1 hZ.out)); clear hgz z0 z1 z2 f0 f1 f2; obtain ⟨hgz, z0, z1, z2, f0, f1, f2⟩ := blk3f hZ2.out; obtain ⟨Av, cv, rfl, hcv1, hcv2⟩ := own_slice hown2)
                have hb1 : Below wo.heap.size wo w9 := by
                  refine Below.grown ((hb.alloc hb.size _).alloc (by simp; have := hb.size; omega) _) hg2 (by simp; have := hb.size; omega) (fun k hk => ?_)
                  exact (hown1.lt k hk).1
                go_roundw
                case rel =>
                  refine ⟨k + 1, _, out ++ [⟨rt, rk, rd⟩], by omega, by go_num, ?_, hb1.setCell (p := ⟨wo.heap.size, 2, none⟩) (Nat.le_refl _) _, hid_mk (hZ2.out.set_ 2 _), by rw [Hid, hn.out, drop_take_next hd.out, if_pos g1, List.append_assoc]⟩
                  have := own_far hown2 hZ2.out (by decide) 2 (.slice Av (out.length + 1) cv)
                  simpa [cellsOf, recCells] using this
                case measure => simp [intOf]; omega
              case neg =>
                go_wp2
                go_roundw
                case rel => exact ⟨k + 1, _, out, by omega, by go_num, hown1.alloc _, hb.alloc hb.size _, hid_mk (hZ.out.alloc _), by rw [Hid, hn.out, drop_take_next hd.out, if_neg g1]⟩
                case measure => simp [intOf]; omega
            case neg =>
              obtain rfl : n' = k := by omega
              clear hlt
              have hout : Hid (out = l.rs.take m ++ more.drop f) := by rw [Hid, hn.out, hn1.out, List.take_of_length_le (l := more) (by rw [hlen'.out]; exact Nat.le_refl _)]
              have hz2 : Hid (mg = if 200 < out.length then ⟨zeroL, 0, false, 130⟩ else if rightJ ⟨l.base, l.bt, out⟩ then ⟨⟨l.base, l.bt, out⟩, (at' + n'), true, 0⟩ else ⟨zeroL, 0, false, 1⟩) := by
                unfold Hid
                rw [hz.out, hfd.out]
                dsimp only
                rw [hm0.out, ← hout.out, hlen'.out, Int.max_eq_right (by omega)]
              have hRo : Recs wr B A1 out.length out := Reads.of_own hown1
              clear hn hn1 hout hz hfd hm0
              by_cases g200 : 200 < out.length
              case pos =>
                obtain ⟨hgy, y0, y1, y2, e0, e1, e2⟩ := blk3f hY1.out
                obtain ⟨hgn, n0, n1, n2⟩ := blk3 hN1.out
                go_wp2
                try simp only [Exit.inBlock, Exit.then]
                refine ends_ret hQ (v := .tuple #[.agg #[.int .i64 0, .int .i64 0, .slice none 0 0], .int .i64 0, .bool false, .int .i64 130]) (by simp [results, Tryz.results99, go_sem, y0, y1, y2]) rfl ?_
                rw [hz2.out, if_pos g200]
                exact ⟨none, 0, 0, rfl, Reads.none_, Nat.le_refl _, set3_below _ _ _ qr (by simp)⟩
              cases hr3 : rightJ ⟨l.base, l.bt, out⟩
              case false =>
                replace hr3 := hid_mk hr3
                replace hRo := hid_mk hRo
                go_wp2_with fail
                rw [logV_mk l.base l.bt out]
                refine (refRight_any ⟨l.base, l.bt, out⟩ _ _ _ _ (by omega) (hRo.out.to (by go_grown))).mono ?_
                rw [hr3.out]
                rintro e w21 ⟨rfl, hb⟩
                have q21 := (after (w := w) hb (by go_grown)).1
                replace hY1 := hid_mk (hY1.out.keep (after hb (by go_grown)).1)
                replace hN1 := hid_mk (hN1.out.keep (after hb (by go_grown)).1)
                replace hZ := hid_mk (hZ.out.keep (after hb (by go_grown)).1)
                replace hRo := hid_mk (hRo.out.to (after hb (by go_grown)).1)
                clear hgz z0 z1 z2 f0 f1 f2
                obtain ⟨hgz, z0, z1, z2, f0, f1, f2⟩ := blk3f hZ.out
                have hs21 := hb.size; try simp only [World.size_alloc] at hs21; clear hb
                obtain ⟨hgy, y0, y1, y2, e0, e1, e2⟩ := blk3f hY1.out
                obtain ⟨hgn, n0, n1, n2⟩ := blk3 hN1.out
                go_wp2
                try simp only [Exit.inBlock, Exit.then]
                refine ends_ret hQ (v := .tuple #[.agg #[.int .i64 0, .int .i64 0, .slice none 0 0], .int .i64 0, .bool false, .int .i64 1]) (by simp [results, Tryz.results99, go_sem, y0, y1, y2]) rfl ?_
                rw [hz2.out, if_neg g200, if_neg (by rw [hr3.out]; decide)]
                exact ⟨none, 0, 0, rfl, Reads.none_, Nat.le_refl _, set3_below _ _ _ q21 (by simp)⟩
              case true =>
                replace hr3 := hid_mk hr3
                replace hRo := hid_mk hRo
                go_wp2_with fail
                rw [logV_mk l.base l.bt out]
                refine (refRight_any ⟨l.base, l.bt, out⟩ _ _ _ _ (by omega) (hRo.out.to (by go_grown))).mono ?_
                rw [hr3.out]
                rintro e w21 ⟨rfl, hb⟩
                have q21 := (after (w := w) hb (by go_grown)).1
                replace hY1 := hid_mk (hY1.out.keep (after hb (by go_grown)).1)
                replace hN1 := hid_mk (hN1.out.keep (after hb (by go_grown)).1)
                replace hZ := hid_mk (hZ.out.keep (after hb (by go_grown)).1)
                replace hRo := hid_mk (hRo.out.to (after hb (by go_grown)).1)
                clear hgz z0 z1 z2 f0 f1 f2
                obtain ⟨hgz, z0, z1, z2, f0, f1, f2⟩ := blk3f hZ.out
                have hs21 := hb.size; try simp only [World.size_alloc] at hs21; clear hb
                obtain ⟨hgy, y0, y1, y2, e0, e1, e2⟩ := blk3f hY1.out
                obtain ⟨hgn, n0, n1, n2⟩ := blk3 hN1.out
                go_wp2
                try simp only [Exit.inBlock, Exit.then]
                refine ends_ret hQ (v := .tuple #[.agg #[.int .i64 l.base, .int .i64 l.bt, .slice A1 out.length cp1], .int .i64 (at' + n'), .bool true, .int .i64 0]) (by simp [results, Tryz.results99, go_sem, y0, y1, y2]) rfl ?_
                rw [hz2.out, if_neg g200, if_pos hr3.out]
                exact ⟨A1, out.length, cp1, rfl, set3_reads hY1.out _ _ _ (by omega) (by decide) hRo.out, hc11, set3_below _ _ _ q21 (by simp)⟩
set_option maxRecDepth 100000 in
set_option maxRecDepth 100000 in
set_option maxHeartbeats 3200000 in
theorem refMerge_yes3 (l : Lg) (at' term : Int) (more : List Rec) (A : Option Addr) (n cap : Nat) (A' : Option Addr) (n' cap' : Nat) (w : World) {B : Nat} (hB : B ≤ w.heap.size) (hm : n ≤ 4398046511103) (hm' : n' ≤ 4398046511103) (hcap : n ≤ cap) (_hcap' : n' ≤ cap') (h : Recs w B A n l.rs) (h' : Recs w B A' n' more) (hr : rightJ l = true) (hr2 : rightJ ⟨at', term, more⟩ = true) (gb : termJ l at' = some term) :
    Calls Tryz.prog 99 #[logV l A n cap, .int .i64 at', .int .i64 term, .slice A' n' cap'] w (RetMgR B w (mergeJ l at' term more)) := by
  have hlen := hid_mk h.len
  have hlen' := hid_mk h'.len
  have hX0 := Blk.new w 24 #[.int .i64 l.base, .int .i64 l.bt, .slice A n cap]
  have hY0 := Blk.new (w.alloc (.cells #[.int .i64 l.base, .int .i64 l.bt, .slice A n cap] 24)) 24 #[.int .i64 0, .int .i64 0, .slice none 0 0]
  have hN0 := Blk.new ((w.alloc (.cells #[.int .i64 l.base, .int .i64 l.bt, .slice A n cap] 24)).alloc (.cells #[.int .i64 0, .int .i64 0, .slice none 0 0] 24)) 24 #[.int .i64 0, .int .i64 0, .slice none 0 0]
  simp only [World.size_alloc] at hY0 hN0
  have hX := hid_mk ((hX0.alloc (.cells #[.int .i64 0, .int .i64 0, .slice none 0 0] 24)).alloc (.cells #[.int .i64 0, .int .i64 0, .slice none 0 0] 24))
  have hY := hid_mk (hY0.alloc (.cells #[.int .i64 0, .int .i64 0, .slice none 0 0] 24))
  have hN := hid_mk (hN0)
  clear hX0 hY0 hN0
  have hbd := right_bounds hr
  have hbd2 := right_bounds hr2
  dsimp only at hbd2
  have hln := hlen.out
  have hln' := hlen'.out
  have hn200 : n ≤ 200 := by omega
  have hn200' : n' ≤ 200 := by omega
  have ga : ¬ (l.base ≤ at' ∧ termJ l at' ≠ some term) := fun e => e.2 gb
  have hrg := termJ_range gb
  have gb1 : l.base ≤ at' := hrg.1
  have g0 : at' ≤ l.base + n := by omega
  clear hrg
  replace gb := hid_mk gb
  have hz := hid_mk (mergeJ_fits hr hr2 ga)
  obtain ⟨mg, hmg⟩ : ∃ mg, mergeJ l at' term more = mg := ⟨_, rfl⟩
  rw [hmg]
  replace hz := hid_mk (hmg.symm.trans hz.out)
  clear hmg ga
  have hla : Hid (lastJ l = l.base + n) := by unfold Hid lastJ; rw [hln]
  clear hln hln' 
  replace hr := hid_mk hr
  replace hr2 := hid_mk hr2
  rw [logV_eq]
  refine calls_of_wpQ Tryz.func99 rfl ?_
  intro Q hQ
  simp only [Tryz.ntmps99, List.size_toArray, List.length_cons, List.length_nil, Nat.reduceAdd, Nat.reduceSub, Array.replicate_succ, Array.replicate_zero, List.push_toArray, List.append_toArray, List.nil_append, List.cons_append]
  go_wp2_with fail
  try rw [← logV_eq]
  refine (refRight_any l _ _ _ _ (by omega) (h.to (by go_grown))).mono ?_
  rw [hr.out]
  rintro e w1 ⟨rfl, hb⟩
  have q1 := (after (w := w) hb (by go_grown)).1
  replace hX := hid_mk (hX.out.keep (after hb (by go_grown)).1)
  replace hY := hid_mk (hY.out.keep (after hb (by go_grown)).1)
  replace hN := hid_mk (hN.out.keep (after hb (by go_grown)).1)
  have hs1 := hb.size; try simp only [World.size_alloc] at hs1; clear hb
  go_wp2_with fail
  rw [logV_mk at' term more]
  refine (refRight_any ⟨at', term, more⟩ _ _ _ _ (by omega) (h'.to (by go_grown))).mono ?_
  rw [hr2.out]
  rintro e w2 ⟨rfl, hb⟩
  have q2 := (after (w := w) hb (by go_grown)).1
  replace hX := hid_mk (hX.out.keep (after hb (by go_grown)).1)
  replace hY := hid_mk (hY.out.keep (after hb (by go_grown)).1)
  replace hN := hid_mk (hN.out.keep (after hb (by go_grown)).1)
  have hs2 := hb.size; try simp only [World.size_alloc] at hs2; clear hb
  obtain ⟨hgx, x0, x1, x2⟩ := blk3 hX.out
  go_wp2_with fail
  try rw [← logV_eq]
  refine (refLast_any l _ _ _ _ (by omega) hlen.out hbd.1 hbd.2.1).mono ?_
  rw [hla.out]
  rintro e w3 ⟨rfl, hb⟩
  have q3 := (after (w := w) hb (by go_grown)).1
  replace hX := hid_mk (hX.out.keep (after hb (by go_grown)).1)
  replace hY := hid_mk (hY.out.keep (after hb (by go_grown)).1)
  replace hN := hid_mk (hN.out.keep (after hb (by go_grown)).1)
  clear hgx x0 x1 x2
  obtain ⟨hgx, x0, x1, x2⟩ := blk3 hX.out
  have hs3 := hb.size; try simp only [World.size_alloc] at hs3; clear hb
  clear hgx x0 x1 x2
  obtain ⟨hgx, x0, x1, x2⟩ := blk3 hX.out
  have hne0 : (term != term) = false := by simp
  go_wp2_with fail
  try rw [← logV_eq]
  refine (refTerm_any l _ A n cap _ (by omega) (h.to (by go_grown)) hbd.1 hbd.2.1).mono ?_
  rw [gb.out, Option.getD_some]
  rintro e w4 ⟨rfl, hb⟩
  have q4 := (after (w := w) hb (by go_grown)).1
  replace hX := hid_mk (hX.out.keep (after hb (by go_grown)).1)
  replace hY := hid_mk (hY.out.keep (after hb (by go_grown)).1)
  replace hN := hid_mk (hN.out.keep (after hb (by go_grown)).1)
  clear hgx x0 x1 x2
  obtain ⟨hgx, x0, x1, x2⟩ := blk3 hX.out
  have hs4 := hb.size; try simp only [World.size_alloc] at hs4; clear hb
  go_wp2
  go_loopw [15, 75] (fun f i wr => ∃ (k : Nat) (fi : Int), k ≤ n' ∧ i = .int .i64 k ∧ f = .int .i64 fi ∧ -1 ≤ fi ∧ fi < n' ∧ Below w4.heap.size w4 wr ∧ Hid (FdR l at' more k fi)) (fun _ i _ => n' - (intOf i).toNat)
  case atStart => exact ⟨0, -1, Nat.zero_le _, rfl, rfl, by omega, by omega, Below.refl _ _, .inl ⟨rfl, by simp⟩⟩
  case round =>
    obtain ⟨k, fi, hk, rfl, rfl, hf1, hf2, hb, hn⟩ := hrel
    have hwz := hb.size
    replace hX := hid_mk (hX.out.keep hb)
    replace hY := hid_mk (hY.out.keep hb)
    replace hN := hid_mk (hN.out.keep hb)
    clear hgx x0 x1 x2
    obtain ⟨hgx, x0, x1, x2⟩ := blk3 hX.out
    have qr : Below w.heap.size w wr := q4.trans (hb.mono q4.size)
    by_cases hlt : k < n'
    · obtain ⟨b, o, r, rfl, hbb, hd, ct, ck, cd⟩ := (h'.to qr).at_ hlt
      have hrp := (right_pos hr2.out) r (drop_mem hd.out)
      obtain ⟨rt, rk, rd⟩ := r
      dsimp only at ct ck cd hrp
      have hb3 := hid_mk hb
      rcases (by omega : fi < 0 ∨ 0 ≤ fi) with hf0 | hf0
      case inr =>
        have hff : decide (fi < 0) = false := by simpa using hf0
        go_wp2
        go_quiet (fail)
        go_wp2
        go_roundw
        case rel =>
          refine ⟨k + 1, fi, by omega, by go_num, rfl, hf1, hf2, below_drewN (by go_grown) _, ?_⟩
          rcases hn.out with ⟨e, _⟩ | ⟨e1, e2, e3⟩
          · omega
          · exact .inr ⟨e1, by omega, e3⟩
        case measure => simp [intOf]; omega
      obtain rfl : fi = -1 := by omega
      have hn2 : Hid (fdJ l at' 0 more = fdJ l at' k (more.drop k)) := by
        rcases hn.out with ⟨_, e⟩ | ⟨e1, _, _⟩
        · exact e
        · omega
      clear hn hf0 hf1
      have p1 : ¬ at' + 1 + k ≤ l.base := by omega
      have p1' : l.base < at' + 1 + k := by omega
      have hRr := hid_mk (Blk.new wr 51 #[.int .i64 rt, .int .i64 rk, .string rd])
      go_wp2_with fail
      clear hgx x0 x1 x2
      obtain ⟨hgx, x0, x1, x2⟩ := blk3 hX.out
      obtain ⟨hgr, r0, r1, r2⟩ := blk3 hRr.out
      have hw2 : IntKind.i64.wrap (at' + 1) = at' + 1 := IntWalk.i64_in _ (by omega)
      have hw3 : IntKind.i64.wrap (at' + 1 + k) = at' + 1 + k := IntWalk.i64_in _ (by omega)
      cases hpt : termJ l (at' + 1 + k)
      case none =>
        have hne : ((-1 : Int) != rt) = true := by simp; omega
        have hfd : Hid (¬ (at' + 1 + k ≤ l.base ∨ termJ l (at' + 1 + k) = some rt)) := by unfold Hid; rw [hpt]; simp; omega
        replace hpt := hid_mk hpt
        go_region_held3 (fun w' => w'.cell? ⟨w.heap.size, 0, none⟩ = some (.int .i64 l.base) ∧ w'.cell? ⟨w.heap.size, 1, none⟩ = some (.int .i64 l.bt) ∧ w'.cell? ⟨w.heap.size, 2, none⟩ = some (.slice A n cap) ∧ w'.cell? ⟨wr.heap.size, 0, none⟩ = some (.int .i64 rt)) ((first | (refine ⟨?_, ?_, ?_, ?_⟩ <;> assumption) | go_keep)) (first | (go_at_call 91; refine (refTerm_any l _ A n cap _ (by omega) (h.to (by go_grown)) hbd.1 hbd.2.1).mono ?_; rw [hpt.out, Option.getD_none]; rintro e w6 ⟨rfl, hb⟩; have q6 := (after (w := w) hb (by go_grown)).1; replace hX := hid_mk (hX.out.keep (after hb (by go_grown)).1); replace hY := hid_mk (hY.out.keep (after hb (by go_grown)).1); replace hN := hid_mk (hN.out.keep (after hb (by go_grown)).1); replace hRr := hid_mk (hRr.out.keep (after hb (by go_grown)).1); clear hgx x0 x1 x2 hgr r0 r1 r2; obtain ⟨hgx, x0, x1, x2⟩ := blk3 hX.out; obtain ⟨hgr, r0, r1, r2⟩ := blk3 hRr.out; have r5 := (after (w := w4) hb (by go_grown)).1; have hs6 := hb.size; clear hb))
        go_wp2
        go_roundw
        case rel => exact ⟨k + 1, k, by omega, by go_num, rfl, by omega, by omega, r5, .inr ⟨by omega, by omega, by rw [hn2.out, hd.out, fdJ, if_neg hfd.out]; rfl⟩⟩
        case measure => simp [intOf]; omega
      case some t1 =>
        by_cases p2 : t1 = rt
        · obtain rfl : rt = t1 := p2.symm
          have hpt2 := hid_mk hpt
          replace hpt := hid_mk hpt
          go_region_held3 (fun w' => w'.cell? ⟨w.heap.size, 0, none⟩ = some (.int .i64 l.base) ∧ w'.cell? ⟨w.heap.size, 1, none⟩ = some (.int .i64 l.bt) ∧ w'.cell? ⟨w.heap.size, 2, none⟩ = some (.slice A n cap) ∧ w'.cell? ⟨wr.heap.size, 0, none⟩ = some (.int .i64 rt)) ((first | (refine ⟨?_, ?_, ?_, ?_⟩ <;> assumption) | go_keep)) (first | (go_at_call 91; refine (refTerm_any l _ A n cap _ (by omega) (h.to (by go_grown)) hbd.1 hbd.2.1).mono ?_; rw [hpt.out, Option.getD_some]; rintro e w5 ⟨rfl, hb⟩; have q5 := (after (w := w) hb (by go_grown)).1; replace hX := hid_mk (hX.out.keep (after hb (by go_grown)).1); replace hY := hid_mk (hY.out.keep (after hb (by go_grown)).1); replace hN := hid_mk (hN.out.keep (after hb (by go_grown)).1); replace hRr := hid_mk (hRr.out.keep (after hb (by go_grown)).1); clear hgx x0 x1 x2 hgr r0 r1 r2; obtain ⟨hgx, x0, x1, x2⟩ := blk3 hX.out; obtain ⟨hgr, r0, r1, r2⟩ := blk3 hRr.out; have r5 := (after (w := w4) hb (by go_grown)).1; have hs5 := hb.size; clear hb))
          go_wp2
          go_roundw
          case rel => exact ⟨k + 1, -1, by omega, by go_num, rfl, by omega, by omega, r5, .inl ⟨rfl, by rw [hn2.out, hd.out, fdJ, if_pos (.inr hpt2.out)]⟩⟩
          case measure => simp [intOf]; omega
        · have hne : (t1 != rt) = true := by simpa using p2
          have hfd : Hid (¬ (at' + 1 + k ≤ l.base ∨ termJ l (at' + 1 + k) = some rt)) := by unfold Hid; rw [hpt]; simp; exact ⟨by omega, p2⟩
          replace hpt := hid_mk hpt
          replace p2 := hid_mk p2
          go_region_held3 (fun w' => w'.cell? ⟨w.heap.size, 0, none⟩ = some (.int .i64 l.base) ∧ w'.cell? ⟨w.heap.size, 1, none⟩ = some (.int .i64 l.bt) ∧ w'.cell? ⟨w.heap.size, 2, none⟩ = some (.slice A n cap) ∧ w'.cell? ⟨wr.heap.size, 0, none⟩ = some (.int .i64 rt)) ((first | (refine ⟨?_, ?_, ?_, ?_⟩ <;> assumption) | go_keep)) (first | (go_at_call 91; refine (refTerm_any l _ A n cap _ (by omega) (h.to (by go_grown)) hbd.1 hbd.2.1).mono ?_; rw [hpt.out, Option.getD_some]; rintro e w5 ⟨rfl, hb⟩; have q5 := (after (w := w) hb (by go_grown)).1; replace hX := hid_mk (hX.out.keep (after hb (by go_grown)).1); replace hY := hid_mk (hY.out.keep (after hb (by go_grown)).1); replace hN := hid_mk (hN.out.keep (after hb (by go_grown)).1); replace hRr := hid_mk (hRr.out.keep (after hb (by go_grown)).1); clear hgx x0 x1 x2 hgr r0 r1 r2; obtain ⟨hgx, x0, x1, x2⟩ := blk3 hX.out; obtain ⟨hgr, r0, r1, r2⟩ := blk3 hRr.out; have r5 := (after (w := w4) hb (by go_grown)).1; have hs5 := hb.size; clear hb))
          go_wp2
          go_roundw
          case rel => exact ⟨k + 1, k, by omega, by go_num, rfl, by omega, by omega, r5, .inr ⟨by omega, by omega, by rw [hn2.out, hd.out, fdJ, if_neg hfd.out]; rfl⟩⟩
          case measure => simp [intOf]; omega
    · skip
      have he := hid_mk (h'.end_ hlt)
      obtain rfl : n' = k := by omega
      clear hlt
      rcases (by omega : fi < 0 ∨ 0 ≤ fi) with hf0 | hf0
      case inl =>
        have hfd : Hid (fdJ l at' 0 more = none) := by
          rcases hn.out with ⟨_, e⟩ | ⟨e1, _, _⟩
          · rw [Hid, e, he.out]; rfl
          · omega
        clear hgx x0 x1 x2
        obtain ⟨hgx, x0, x1, x2⟩ := blk3 hX.out
        obtain ⟨hgy, y0, y1, y2, e0, e1, e2⟩ := blk3f hY.out
        go_wp2
        try simp only [Exit.inBlock, Exit.then]
        refine ends_ret hQ (v := .tuple #[.agg #[.int .i64 l.base, .int .i64 l.bt, .slice A n cap], .int .i64 (at' + n'), .bool true, .int .i64 0]) (by simp [results, Tryz.results99, go_sem, y0, y1, y2]) rfl ?_
        rw [hz.out, hfd.out]
        dsimp only
        rw [hlen'.out, Int.max_eq_right (by omega)]
        exact ⟨A, n, cap, rfl, set3_reads hY.out _ _ _ (by omega) (by decide) (h.to qr), hcap, set3_below _ _ _ qr (by simp)⟩
      obtain ⟨f, rfl⟩ : ∃ f : Nat, fi = f := ⟨fi.toNat, by omega⟩
      have hfd : Hid (fdJ l at' 0 more = some f) := by
        rcases hn.out with ⟨e, _⟩ | ⟨_, _, e⟩
        · omega
        · rw [Hid, e]; rfl
      clear hn he hf0 hf1
      obtain ⟨i0, hi0, hz0, hz1, hz2⟩ := info_parts recInfo
      obtain ⟨m, hm0⟩ : ∃ m, (at' + f - l.base).toNat = m := ⟨_, rfl⟩
      replace hm0 := hid_mk hm0
      obtain ⟨wo, rfl⟩ : ∃ wo : World, wo = wr := ⟨_, rfl⟩
      have hwo := qr
      have hZ0 := hid_mk (Blk.new wo 24 #[.int .i64 l.base, .int .i64 l.bt, .slice none 0 0])
      have hXo := hX
      have hYo := hY
      have hNo := hN
      clear qr hb hwz
      clear hgx x0 x1 x2
      obtain ⟨hgx, x0, x1, x2⟩ := blk3 hX.out
      go_wp2
      go_loopw [116] (fun i wr => ∃ (k : Nat) (v : Value) (out : List Rec), k ≤ n ∧ i = .int .i64 k ∧ wr.ownsRow wo.heap.size 51 3 v out.length (cellsOf out) ∧ Below wo.heap.size wo wr ∧ Hid (Blk wr wo.heap.size 24 #[.int .i64 l.base, .int .i64 l.bt, v]) ∧ Hid (out = (l.rs.take k).take m)) (fun i _ => n - (intOf i).toNat)
      case atStart => exact ⟨0, .slice none 0 0, [], Nat.zero_le _, rfl, World.ownsRow_nil _ _ _ _, (Below.refl _ _).alloc (Nat.le_refl _) _, hZ0, by simp [Hid]⟩
      case round =>
        obtain ⟨k, v, out, hk, rfl, hown1, hb, hZ, hn⟩ := hrel
        have hwz := hb.size
        have hok : out.length ≤ 400 := by rw [hn.out]; simp; omega
        obtain ⟨A1, cp1, rfl, hc11, -⟩ := own_slice hown1
        replace hX := hid_mk (hX.out.keep hb)
        replace hY := hid_mk (hY.out.keep hb)
        replace hN := hid_mk (hN.out.keep hb)
        clear hgx x0 x1 x2
        obtain ⟨hgx, x0, x1, x2⟩ := blk3 hX.out
        have qr : Below w.heap.size w wr := hwo.trans (hb.mono hwo.size)
        obtain ⟨hgz, z0, z1, z2, f0, f1, f2⟩ := blk3f hZ.out
        by_cases hlt : k < n
        case pos =>
          obtain ⟨b, o, r, rfl, hbb, hd, ct, ck, cd⟩ := (h.to qr).at_ hlt
          obtain ⟨rt, rk, rd⟩ := r
          dsimp only at ct ck cd
          by_cases g1 : l.base + 1 + k < at' + 1 + f
          case pos =>
            have hnew : Reads ((wr.alloc (.cells #[.int .i64 rt, .int .i64 rk, .string rd] 51)).alloc (.cells #[.int .i64 rt, .int .i64 rk, .string rd] 51)) B 51 3 (some ⟨wr.heap.size + 1, 0, none⟩) 1 [.int .i64 rt, .int .i64 rk, .string rd] := by
              have := reads_new (wr.alloc (.cells #[.int .i64 rt, .int .i64 rk, .string rd] 51)) #[.int .i64 rt, .int .i64 rk, .string rd] 51 1 3 B rfl
              simpa using this
            go_wp2_with (at_builtin; refine wpList_append_any _ rfl (.tmp 132) (.tmp 134) _ rfl wo.heap.size 51 i0 _ 3 32 Tryz.underlying22 hi0 hz0 hz1 hz2 rfl (by omega) _ out.length (cellsOf out) rfl ((hown1.alloc _).alloc _) B (some ⟨wr.heap.size + 1, 0, none⟩) 1 1 [.int .i64 rt, .int .i64 rk, .string rd] rfl hnew (rec_one [⟨rt, rk, rd⟩]) (by simp only [maxLen]; omega) (by omega) (by simp; omega) ?_; intro v1 w9 hown2 hg2 hat2; have hZ2 := hid_mk (Blk.grown ((hZ.out.alloc (.cells #[.int .i64 rt, .int .i64 rk, .string rd] 51)).alloc (.cells #[.int .i64 rt, .int .i64 rk, .string rd] 51)) hg2 (own_ne hown1 hZ.out)); clear hgz z0 z1 z2 f0 f1 f2; obtain ⟨hgz, z0, z1, z2, f0, f1, f2⟩ := blk3f hZ2.out; obtain ⟨Av, cv, rfl, hcv1, hcv2⟩ := own_slice hown2)
            have hb1 : Below wo.heap.size wo w9 := by
              refine Below.grown ((hb.alloc hb.size _).alloc (by simp; have := hb.size; omega) _) hg2 (by simp; have := hb.size; omega) (fun k hk => ?_)
              exact (hown1.lt k hk).1
            go_roundw
            case rel =>
              refine ⟨k + 1, _, out ++ [⟨rt, rk, rd⟩], by omega, by go_num, ?_, hb1.setCell (p := ⟨wo.heap.size, 2, none⟩) (Nat.le_refl _) _, hid_mk (hZ2.out.set_ 2 _), by rw [Hid, hn.out]; rw [take_take_next hd.out, if_pos (by have := hm0.out; omega)]⟩
              have := own_far hown2 hZ2.out (by decide) 2 (.slice Av (out.length + 1) cv)
              simpa [cellsOf, recCells] using this
            case measure => simp [intOf]; omega
          case neg =>
            go_wp2
            go_roundw
            case rel => exact ⟨k + 1, _, out, by omega, by go_num, hown1.alloc _, hb.alloc hb.size _, hid_mk (hZ.out.alloc _), by rw [Hid, hn.out]; rw [take_take_next hd.out, if_neg (by have := hm0.out; omega)]⟩
            case measure => simp [intOf]; omega
        case neg =>
          obtain rfl : n = k := by omega
          clear hlt
          have hn1 : Hid (out = l.rs.take m) := by rw [Hid, hn.out, List.take_of_length_le (l := l.rs) (by rw [hlen.out]; exact Nat.le_refl _)]
          clear hn
          obtain ⟨wp, rfl⟩ : ∃ wp : World, wp = wr := ⟨_, rfl⟩
          obtain ⟨out1, rfl⟩ : ∃ o, o = out := ⟨_, rfl⟩
          clear qr hwz hok
          go_wp2
          go_loopw [140] (fun i wr => ∃ (k : Nat) (v : Value) (out : List Rec), k ≤ n' ∧ i = .int .i64 k ∧ wr.ownsRow wo.heap.size 51 3 v out.length (cellsOf out) ∧ Below wo.heap.size wo wr ∧ Hid (Blk wr wo.heap.size 24 #[.int .i64 l.base, .int .i64 l.bt, v]) ∧ Hid (out = out1 ++ (more.take k).drop f)) (fun i _ => n' - (intOf i).toNat)
          case atStart => exact ⟨0, _, out1, Nat.zero_le _, rfl, hown1, hb, hZ, by simp [Hid]⟩
          case round =>
            have ho1 : out1.length ≤ 200 := by rw [hn1.out]; simp; have := hlen.out; omega
            clear hown1 hb hZ hgz z0 z1 z2 f0 f1 f2 hc11
            obtain ⟨k, v, out, hk, rfl, hown1, hb, hZ, hn⟩ := hrel
            have hwz := hb.size
            have hok : out.length ≤ 400 := by rw [hn.out]; simp; omega
            obtain ⟨A1, cp1, rfl, hc11, -⟩ := own_slice hown1
            obtain ⟨hX1, hY1, hN1⟩ : Hid (Blk wr w.heap.size 24 #[.int .i64 l.base, .int .i64 l.bt, .slice A n cap]) ∧ Hid (Blk wr (w.heap.size + 1) 24 #[.int .i64 0, .int .i64 0, .slice none 0 0]) ∧ Hid (Blk wr (w.heap.size + 2) 24 #[.int .i64 0, .int .i64 0, .slice none 0 0]) := ⟨hXo.out.keep hb, hYo.out.keep hb, hNo.out.keep hb⟩
            have qr : Below w.heap.size w wr := hwo.trans (hb.mono hwo.size)
            obtain ⟨hgz, z0, z1, z2, f0, f1, f2⟩ := blk3f hZ.out
            by_cases hlt : k < n'
            case pos =>
              obtain ⟨b, o, r, rfl, hbb, hd, ct, ck, cd⟩ := (h'.to qr).at_ hlt
              obtain ⟨rt, rk, rd⟩ := r
              dsimp only at ct ck cd
              by_cases g1 : f ≤ k
              case pos =>
                have hnew : Reads ((wr.alloc (.cells #[.int .i64 rt, .int .i64 rk, .string rd] 51)).alloc (.cells #[.int .i64 rt, .int .i64 rk, .string rd] 51)) B 51 3 (some ⟨wr.heap.size + 1, 0, none⟩) 1 [.int .i64 rt, .int .i64 rk, .string rd] := by
                  have := reads_new (wr.alloc (.cells #[.int .i64 rt, .int .i64 rk, .string rd] 51)) #[.int .i64 rt, .int .i64 rk, .string rd] 51 1 3 B rfl
                  simpa using this
                go_wp2_with (at_builtin; refine wpList_append_any _ rfl (.tmp 149) (.tmp 151) _ rfl wo.heap.size 51 i0 _ 3 32 Tryz.underlying22 hi0 hz0 hz1 hz2 rfl (by omega) _ out.length (cellsOf out) rfl ((hown1.alloc _).alloc _) B (some ⟨wr.heap.size + 1, 0, none⟩) 1 1 [.int .i64 rt, .int .i64 rk, .string rd] rfl hnew (rec_one [⟨rt, rk, rd⟩]) (by simp only [maxLen]; omega) (by omega) (by simp; omega) ?_; intro v1 w9 hown2 hg2 hat2; have hZ2 := hid_mk (Blk.grown ((hZ.out.alloc (.cells #[.int .i64 rt, .int .i64 rk, .string rd] 51)).alloc (.cells #[.int .i64 rt, .int .i64 rk, .string rd] 51)) hg2 (own_ne hown1 hZ.out)); clear hgz z0 z1 z2 f0 f1 f2; obtain ⟨hgz, z0, z1, z2, f0, f1, f2⟩ := blk3f hZ2.out; obtain ⟨Av, cv, rfl, hcv1, hcv2⟩ := own_slice hown2)
                have hb1 : Below wo.heap.size wo w9 := by
                  refine Below.grown ((hb.alloc hb.size _).alloc (by simp; have := hb.size; omega) _) hg2 (by simp; have := hb.size; omega) (fun k hk => ?_)
                  exact (hown1.lt k hk).1
                go_roundw
                case rel =>
                  refine ⟨k + 1, _, out ++ [⟨rt, rk, rd⟩], by omega, by go_num, ?_, hb1.setCell (p := ⟨wo.heap.size, 2, none⟩) (Nat.le_refl _) _, hid_mk (hZ2.out.set_ 2 _), by rw [Hid, hn.out, drop_take_next hd.out, if_pos g1, List.append_assoc]⟩
                  have := own_far hown2 hZ2.out (by decide) 2 (.slice Av (out.length + 1) cv)
                  simpa [cellsOf, recCells] using this
                case measure => simp [intOf]; omega
              case neg =>
                go_wp2
                go_roundw
                case rel => exact ⟨k + 1, _, out, by omega, by go_num, hown1.alloc _, hb.alloc hb.size _, hid_mk (hZ.out.alloc _), by rw [Hid, hn.out, drop_take_next hd.out, if_neg g1]⟩
                case measure => simp [intOf]; omega
            case neg =>
              obtain rfl : n' = k := by omega
              clear hlt
              have hout : Hid (out = l.rs.take m ++ more.drop f) := by rw [Hid, hn.out, hn1.out, List.take_of_length_le (l := more) (by rw [hlen'.out]; exact Nat.le_refl _)]
              have hz2 : Hid (mg = if 200 < out.length then ⟨zeroL, 0, false, 130⟩ else if rightJ ⟨l.base, l.bt, out⟩ then ⟨⟨l.base, l.bt, out⟩, (at' + n'), true, 0⟩ else ⟨zeroL, 0, false, 1⟩) := by
                unfold Hid
                rw [hz.out, hfd.out]
                dsimp only
                rw [hm0.out, ← hout.out, hlen'.out, Int.max_eq_right (by omega)]
              have hRo : Recs wr B A1 out.length out := Reads.of_own hown1
              clear hn hn1 hout hz hfd hm0
              by_cases g200 : 200 < out.length
              case pos =>
                obtain ⟨hgy, y0, y1, y2, e0, e1, e2⟩ := blk3f hY1.out
                obtain ⟨hgn, n0, n1, n2⟩ := blk3 hN1.out
                go_wp2
                try simp only [Exit.inBlock, Exit.then]
                refine ends_ret hQ (v := .tuple #[.agg #[.int .i64 0, .int .i64 0, .slice none 0 0], .int .i64 0, .bool false, .int .i64 130]) (by simp [results, Tryz.results99, go_sem, y0, y1, y2]) rfl ?_
                rw [hz2.out, if_pos g200]
                exact ⟨none, 0, 0, rfl, Reads.none_, Nat.le_refl _, set3_below _ _ _ qr (by simp)⟩
              cases hr3 : rightJ ⟨l.base, l.bt, out⟩
              case false =>
                replace hr3 := hid_mk hr3
                replace hRo := hid_mk hRo
                go_wp2_with fail
                rw [logV_mk l.base l.bt out]
                refine (refRight_any ⟨l.base, l.bt, out⟩ _ _ _ _ (by omega) (hRo.out.to (by go_grown))).mono ?_
                rw [hr3.out]
                rintro e w21 ⟨rfl, hb⟩
                have q21 := (after (w := w) hb (by go_grown)).1
                replace hY1 := hid_mk (hY1.out.keep (after hb (by go_grown)).1)
                replace hN1 := hid_mk (hN1.out.keep (after hb (by go_grown)).1)
                replace hZ := hid_mk (hZ.out.keep (after hb (by go_grown)).1)
                replace hRo := hid_mk (hRo.out.to (after hb (by go_grown)).1)
                clear hgz z0 z1 z2 f0 f1 f2
                obtain ⟨hgz, z0, z1, z2, f0, f1, f2⟩ := blk3f hZ.out
                have hs21 := hb.size; try simp only [World.size_alloc] at hs21; clear hb
                obtain ⟨hgy, y0, y1, y2, e0, e1, e2⟩ := blk3f hY1.out
                obtain ⟨hgn, n0, n1, n2⟩ := blk3 hN1.out
                go_wp2
                try simp only [Exit.inBlock, Exit.then]
                refine ends_ret hQ (v := .tuple #[.agg #[.int .i64 0, .int .i64 0, .slice none 0 0], .int .i64 0, .bool false, .int .i64 1]) (by simp [results, Tryz.results99, go_sem, y0, y1, y2]) rfl ?_
                rw [hz2.out, if_neg g200, if_neg (by rw [hr3.out]; decide)]
                exact ⟨none, 0, 0, rfl, Reads.none_, Nat.le_refl _, set3_below _ _ _ q21 (by simp)⟩
              case true =>
                replace hr3 := hid_mk hr3
                replace hRo := hid_mk hRo
                go_wp2_with fail
                rw [logV_mk l.base l.bt out]
                refine (refRight_any ⟨l.base, l.bt, out⟩ _ _ _ _ (by omega) (hRo.out.to (by go_grown))).mono ?_
                rw [hr3.out]
                rintro e w21 ⟨rfl, hb⟩
                have q21 := (after (w := w) hb (by go_grown)).1
                replace hY1 := hid_mk (hY1.out.keep (after hb (by go_grown)).1)
                replace hN1 := hid_mk (hN1.out.keep (after hb (by go_grown)).1)
                replace hZ := hid_mk (hZ.out.keep (after hb (by go_grown)).1)
                replace hRo := hid_mk (hRo.out.to (after hb (by go_grown)).1)
                clear hgz z0 z1 z2 f0 f1 f2
                obtain ⟨hgz, z0, z1, z2, f0, f1, f2⟩ := blk3f hZ.out
                have hs21 := hb.size; try simp only [World.size_alloc] at hs21; clear hb
                obtain ⟨hgy, y0, y1, y2, e0, e1, e2⟩ := blk3f hY1.out
                obtain ⟨hgn, n0, n1, n2⟩ := blk3 hN1.out
                go_wp2
                try simp only [Exit.inBlock, Exit.then]
                refine ends_ret hQ (v := .tuple #[.agg #[.int .i64 l.base, .int .i64 l.bt, .slice A1 out.length cp1], .int .i64 (at' + n'), .bool true, .int .i64 0]) (by simp [results, Tryz.results99, go_sem, y0, y1, y2]) rfl ?_
                rw [hz2.out, if_neg g200, if_pos hr3.out]
                exact ⟨A1, out.length, cp1, rfl, set3_reads hY1.out _ _ _ (by omega) (by decide) hRo.out, hc11, set3_below _ _ _ q21 (by simp)⟩
end Go.Proofs.YtncdjmpdbinanaaGreatDoor
namespace Go.Proofs.YtncdjmpdbinanaaGreatDoor
open Go.RowKit

set_option maxRecDepth 100000 in
theorem merge_len (l : Lg) (at' term : Int) (more : List Rec) : (mergeJ l at' term more).l.rs.length ≤ 200 := by
  unfold mergeJ
  split
  · rename_i hr
    have hr1 : rightJ l = true := by revert hr; cases rightJ l <;> simp
    have hb := right_bounds hr1
    split
    · exact hb.2.2.2.2.1
    · split
      · exact hb.2.2.2.2.1
      · dsimp only
        split
        · simp [zeroL]
        · split
          · dsimp only; omega
          · simp [zeroL]
  · simp [zeroL]
set_option maxRecDepth 100000 in
theorem Merge_any (l : Lg) (at' term : Int) (more : List Rec) (A : Option Addr) (n cap : Nat) (A' : Option Addr) (n' cap' : Nat) (w : World) {B : Nat} (hB : B ≤ w.heap.size) (hm : n ≤ 4398046511103) (hm' : n' ≤ 4398046511103) (hcap : n ≤ cap) (hcap' : n' ≤ cap') (h : Recs w B A n l.rs) (h' : Recs w B A' n' more) :
    Calls Tryz.prog 97 #[logV l A n cap, .int .i64 at', .int .i64 term, .slice A' n' cap'] w (RetMg B w (mergeJ l at' term more)) := by
  by_cases g : (rightJ l && rightJ ⟨at', term, more⟩) = true ∧ ¬ (l.base ≤ at' ∧ termJ l at' ≠ some term)
  · have hr : rightJ l = true := by have := g.1; revert this; cases rightJ l <;> simp
    have hr2 : rightJ ⟨at', term, more⟩ = true := by have := g.1; rw [hr] at this; simpa using this
    by_cases gb : at' < l.base
    · exact Merge_fits1 l at' term more A n cap A' n' cap' w hB hcap hcap' h h' hr hr2 g.2 gb
    · exact Merge_fits2 l at' term more A n cap A' n' cap' w hB hcap hcap' h h' hr hr2 g.2 gb
  · exact Merge_one l at' term more A n cap A' n' cap' w hB hm hm' hcap hcap' h h' g
set_option maxRecDepth 100000 in
theorem refMerge_any (l : Lg) (at' term : Int) (more : List Rec) (A : Option Addr) (n cap : Nat) (A' : Option Addr) (n' cap' : Nat) (w : World) {B : Nat} (hB : B ≤ w.heap.size) (hm : n ≤ 4398046511103) (hm' : n' ≤ 4398046511103) (hcap : n ≤ cap) (hcap' : n' ≤ cap') (h : Recs w B A n l.rs) (h' : Recs w B A' n' more) :
    Calls Tryz.prog 99 #[logV l A n cap, .int .i64 at', .int .i64 term, .slice A' n' cap'] w (RetMgR B w (mergeJ l at' term more)) := by
  by_cases g : (rightJ l && rightJ ⟨at', term, more⟩) = true ∧ ¬ (l.base ≤ at' ∧ termJ l at' ≠ some term)
  · have hr : rightJ l = true := by have := g.1; revert this; cases rightJ l <;> simp
    have hr2 : rightJ ⟨at', term, more⟩ = true := by have := g.1; rw [hr] at this; simpa using this
    by_cases g1 : at' + n' < l.base
    · exact refMerge_yes1 l at' term more A n cap A' n' cap' w hB hm hm' hcap hcap' h h' hr hr2 g1
    by_cases g2 : at' < l.base
    · exact refMerge_yes2 l at' term more A n cap A' n' cap' w hB hm hm' hcap hcap' h h' hr hr2 ⟨g2, by omega⟩
    · exact refMerge_yes3 l at' term more A n cap A' n' cap' w hB hm hm' hcap hcap' h h' hr hr2 (Classical.byContradiction fun e => g.2 ⟨by omega, e⟩)
  · exact refMerge_no l at' term more A n cap A' n' cap' w hB hm hm' hcap hcap' h h' g
end Go.Proofs.YtncdjmpdbinanaaGreatDoor
