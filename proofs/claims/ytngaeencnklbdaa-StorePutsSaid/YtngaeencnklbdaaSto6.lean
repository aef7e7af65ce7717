/-
  WHAT IS PROVED HERE: what the reference's with and Sweep hand back. Condition: at most 2^41 items.
-/
import Derived.Test.YtngaeencnklbdaaSto5
namespace Go.Proofs.Ytngaeencnklbdaa
open Go.RowKit

/-- the items, that of a key having so many Refs -/
def withI (is : List Itm) (key : ByteArray) (r : Int) : List Itm := is.map fun i => if i.k = key then ⟨i.k, i.b, r⟩ else i
theorem withI_take {is : List Itm} {k : Nat} {i : Itm} (h : is[k]? = some i) (key : ByteArray) (r : Int) : (withI is key r).take (k + 1) = (withI is key r).take k ++ [if i.k = key then ⟨i.k, i.b, r⟩ else i] := by
  unfold withI
  rw [List.take_add_one, List.getElem?_map, h]
  simp
theorem own_set {w : World} {base e size n : Nat} {v : Value} {xs : List Value} {g : Nat} (h : w.ownsRow base e size v n xs) (hg : v.ownBlock ≠ some g) (i : Nat) (u : Value) : (w.setCell ⟨g, i, none⟩ u).ownsRow base e size v n xs :=
  h.kept (row := some g) ⟨rfl, rfl, rfl, by simp, fun k _ hk => heap_setCell_other w ⟨g, i, none⟩ k u (fun e => hk (by simp [e]))⟩ (.inr hg)
theorem OwnI.len {w : World} {B n : Nat} {v : Value} {is : List Itm} (h : OwnI w B v n is) : is.length = n := by
  have := h.1
  rw [itmsL_len] at this
  omega
def RetI (w : World) (is : List Itm) (e : Ending) (w' : World) : Prop := ∃ v, e = .returned (.agg #[v]) ∧ OwnI w' w.heap.size v is.length is ∧ Below w.heap.size w w'
set_option maxRecDepth 100000 in
set_option maxHeartbeats 1600000 in
theorem with_any (is : List Itm) (A : Option Addr) (n cap : Nat) (key : ByteArray) (r : Int) (w : World) {B : Nat} (hm : n ≤ 3518437208800) (h0 : Itms w B A n is) :
    Calls Try.prog 30 #[.agg #[.slice A n cap], .string key, .int .i64 r] w (RetI w (withI is key r)) := by
  obtain ⟨i0, hi0, hz0, hz1, hz2⟩ := info_parts40 itemJ3
  have hlen := hid_mk h0.len
  have h := hid_mk h0.top
  have hb0 : Hid (Below w.heap.size w (((w.alloc (.cells #[.slice A n cap] 24)).alloc (.cells #[.slice none 0 0] 24)).alloc (.cells #[.slice none 0 0] 24))) := (((Below.refl _ w).alloc (Nat.le_refl _) _).alloc (by rw [World.size_alloc]; omega) _).alloc (by rw [World.size_alloc, World.size_alloc]; omega) _
  have hR0 : Hid (Blk (((w.alloc (.cells #[.slice A n cap] 24)).alloc (.cells #[.slice none 0 0] 24)).alloc (.cells #[.slice none 0 0] 24)) (w.heap.size + 1) 24 #[.slice none 0 0]) := by
    have h1 := Blk.new (w.alloc (.cells #[.slice A n cap] 24)) 24 #[.slice none 0 0]
    rw [World.size_alloc] at h1
    exact h1.alloc _
  have hZ0 : Hid (Blk (((w.alloc (.cells #[.slice A n cap] 24)).alloc (.cells #[.slice none 0 0] 24)).alloc (.cells #[.slice none 0 0] 24)) (w.heap.size + 1 + 1) 24 #[.slice none 0 0]) := by
    have h1 := Blk.new ((w.alloc (.cells #[.slice A n cap] 24)).alloc (.cells #[.slice none 0 0] 24)) 24 #[.slice none 0 0]
    rw [World.size_alloc, World.size_alloc] at h1
    exact h1
  have own0 : Hid (OwnI (((w.alloc (.cells #[.slice A n cap] 24)).alloc (.cells #[.slice none 0 0] 24)).alloc (.cells #[.slice none 0 0] 24)) w.heap.size (.slice none 0 0) 0 ((withI is key r).take 0)) := ⟨rfl, .inl ⟨rfl, rfl⟩⟩
  clear h0
  refine calls_of_wpQ Try.func30 rfl ?_
  intro Q hQ
  simp only [Try.ntmps30, List.size_toArray, List.length_cons, List.length_nil, Nat.reduceAdd, Nat.reduceSub, Array.replicate_succ, Array.replicate_zero, List.push_toArray, List.append_toArray, List.nil_append, List.cons_append]
  go_wp2
  go_loopw [14] (fun iv wr => ∃ (k : Nat) (v : Value), iv = .int .i64 k ∧ k ≤ n ∧ Hid (OwnI wr w.heap.size v k ((withI is key r).take k)) ∧ Hid (Blk wr (w.heap.size + 1 + 1) 24 #[v]) ∧ Hid (Blk wr (w.heap.size + 1) 24 #[.slice none 0 0]) ∧ Hid (Below w.heap.size w wr)) (fun iv _ => n - (intOf iv).toNat)
  case atStart => exact ⟨0, _, rfl, Nat.zero_le _, own0, hZ0, hR0, hb0⟩
  case round =>
    clear hb0 hR0 hZ0 own0
    obtain ⟨k, v, rfl, hk, hown, hZ, hR, hb⟩ := hrel
    obtain ⟨Ao, co, rfl, hco1, hco2⟩ := own_slice hown.out
    by_cases hlt : k < n
    · obtain ⟨b, o, i, rfl, hbl, hik, c0, c1, c2⟩ := (h.out.to hb.out).at_ hlt
      have htk := hid_mk (withI_take hik key r)
      obtain ⟨K, Bd, rf⟩ := i
      dsimp only at c0 c1 c2 htk
      have heq := str_eq K key
      have k0 : (0 : Int) ≤ k := by omega
      have k1 : (k : Int) < n := by omega
      have z0 : wr.cell? ⟨w.heap.size + 1 + 1, 0, none⟩ = some (.slice Ao k co) := hZ.out.cell 0
      have zl := hZ.out.lt
      have hnr : (Value.slice Ao k co).ownBlock ≠ some wr.heap.size := fun e => by have h1 := (World.ownsRow.lt hown.out _ e).2; omega
      have hws := hb.out.size
      replace hik := hid_mk hik
      by_cases hKk : K = key
      · subst hKk
        have htk2 : Hid ((withI is K r).take (k + 1) = (withI is K r).take k ++ [⟨K, Bd, r⟩]) := by have h1 := htk.out; rw [if_pos rfl] at h1; exact h1
        clear heq htk
        have hqq : (K.toList == K.toList) = true := by simp
        have hnew : Itms ((wr.alloc (.cells #[.string K, .string Bd, .int .i64 r] 35)).alloc (.cells #[.string K, .string Bd, .int .i64 r] 35)) w.heap.size (some ⟨wr.heap.size + 1, 0, none⟩) 1 [⟨K, Bd, r⟩] := by
          have h1 := reads_new (wr.alloc (.cells #[.string K, .string Bd, .int .i64 r] 35)) #[.string K, .string Bd, .int .i64 r] 35 1 3 w.heap.size rfl
          rw [World.size_alloc] at h1
          exact h1
        have hbA : Hid (Below w.heap.size w ((wr.alloc (.cells #[.string K, .string Bd, .int .i64 r] 35)).alloc (.cells #[.string K, .string Bd, .int .i64 r] 35))) := (hb.out.alloc hb.out.size _).alloc (by rw [World.size_alloc]; omega) _
        have hZA : Hid (Blk ((wr.alloc (.cells #[.string K, .string Bd, .int .i64 r] 35)).alloc (.cells #[.string K, .string Bd, .int .i64 r] 35)) (w.heap.size + 1 + 1) 24 #[.slice Ao k co]) := (hZ.out.alloc _).alloc _
        have hRA : Hid (Blk ((wr.alloc (.cells #[.string K, .string Bd, .int .i64 r] 35)).alloc (.cells #[.string K, .string Bd, .int .i64 r] 35)) (w.heap.size + 1) 24 #[.slice none 0 0]) := (hR.out.alloc _).alloc _
        have ownA : ((wr.alloc (.cells #[.string K, .string Bd, .int .i64 r] 35)).alloc (.cells #[.string K, .string Bd, .int .i64 r] 35)).ownsRow w.heap.size 35 3 (.slice Ao k co) k (itmsL ((withI is K r).take k)) := (World.ownsRow.alloc hown.out _).alloc _
        go_wp2_with (at_builtin; refine wpList_append_any _ rfl (.tmp 25) (.tmp 27) _ rfl w.heap.size 35 i0 _ 3 40 Try.underlying22 hi0 hz0 hz1 hz2 rfl (by omega) _ k _ rfl ownA w.heap.size (some ⟨wr.heap.size + 1, 0, none⟩) 1 1 (itmsL [⟨K, Bd, r⟩]) rfl hnew (itm_one [⟨K, Bd, r⟩]) (by simp only [maxLen]; omega) (by omega) (by simp; omega) ?_; intro v1 w9 hown2 hg2 hat2; obtain ⟨A1, c1, rfl, hd1, hd2⟩ := own_slice hown2; have hZ2 := hid_mk (Blk.grown hZA.out hg2 (own_ne ownA hZA.out)); have hR2 := hid_mk (Blk.grown hRA.out hg2 (own_ne ownA hRA.out)); have q2 := hid_mk (hbA.out.grown hg2 hbA.out.size (fun k hk => (World.ownsRow.lt ownA k hk).1)); have e0 : w9.cell? ⟨w.heap.size + 1 + 1, 0, none⟩ = some (.slice Ao k co) := hZ2.out.cell 0; have e1 := hZ2.out.frozen 0; have e2 := hZ2.out.lt; clear z0 zl hnew ownA hg2 hat2)
        have own3 : Hid (OwnI (w9.setCell ⟨w.heap.size + 1 + 1, 0, none⟩ (.slice A1 (k + 1) c1)) w.heap.size (.slice A1 (k + 1) c1) (k + 1) ((withI is K r).take (k + 1))) := by
          rw [htk2.out]
          unfold OwnI Hid
          rw [itmsL_app]
          exact own_far hown2 hZ2.out (by decide) 0 _
        have hZ3 : Hid (Blk (w9.setCell ⟨w.heap.size + 1 + 1, 0, none⟩ (.slice A1 (k + 1) c1)) (w.heap.size + 1 + 1) 24 #[.slice A1 (k + 1) c1]) := hZ2.out.set_ 0 _
        have hR3 : Hid (Blk (w9.setCell ⟨w.heap.size + 1 + 1, 0, none⟩ (.slice A1 (k + 1) c1)) (w.heap.size + 1) 24 #[.slice none 0 0]) := hR2.out.far (by simp) _
        have q3 : Hid (Below w.heap.size w (w9.setCell ⟨w.heap.size + 1 + 1, 0, none⟩ (.slice A1 (k + 1) c1))) := q2.out.setCell (p := ⟨w.heap.size + 1 + 1, 0, none⟩) (by simp; omega) _
        go_roundw
        case rel => exact ⟨k + 1, _, by go_num, by omega, own3, hZ3, hR3, q3⟩
        case measure => simp [intOf]; omega
      · have htk2 : Hid ((withI is key r).take (k + 1) = (withI is key r).take k ++ [⟨K, Bd, rf⟩]) := by have h1 := htk.out; rw [if_neg hKk] at h1; exact h1
        have hq2 : (K.toList == key.toList) = false := by rw [heq]; simp [hKk]
        have hq3 : ¬ K.toList = key.toList := fun e => hKk (toList_inj e)
        clear heq htk
        replace hKk := hid_mk hKk
        have hnew : Itms ((wr.alloc (.cells #[.string K, .string Bd, .int .i64 rf] 35)).alloc (.cells #[.string K, .string Bd, .int .i64 rf] 35)) w.heap.size (some ⟨wr.heap.size + 1, 0, none⟩) 1 [⟨K, Bd, rf⟩] := by
          have h1 := reads_new (wr.alloc (.cells #[.string K, .string Bd, .int .i64 rf] 35)) #[.string K, .string Bd, .int .i64 rf] 35 1 3 w.heap.size rfl
          rw [World.size_alloc] at h1
          exact h1
        have hbA : Hid (Below w.heap.size w ((wr.alloc (.cells #[.string K, .string Bd, .int .i64 rf] 35)).alloc (.cells #[.string K, .string Bd, .int .i64 rf] 35))) := (hb.out.alloc hb.out.size _).alloc (by rw [World.size_alloc]; omega) _
        have hZA : Hid (Blk ((wr.alloc (.cells #[.string K, .string Bd, .int .i64 rf] 35)).alloc (.cells #[.string K, .string Bd, .int .i64 rf] 35)) (w.heap.size + 1 + 1) 24 #[.slice Ao k co]) := (hZ.out.alloc _).alloc _
        have hRA : Hid (Blk ((wr.alloc (.cells #[.string K, .string Bd, .int .i64 rf] 35)).alloc (.cells #[.string K, .string Bd, .int .i64 rf] 35)) (w.heap.size + 1) 24 #[.slice none 0 0]) := (hR.out.alloc _).alloc _
        have ownA : ((wr.alloc (.cells #[.string K, .string Bd, .int .i64 rf] 35)).alloc (.cells #[.string K, .string Bd, .int .i64 rf] 35)).ownsRow w.heap.size 35 3 (.slice Ao k co) k (itmsL ((withI is key r).take k)) := (World.ownsRow.alloc hown.out _).alloc _
        go_wp2_with (at_builtin; refine wpList_append_any _ rfl (.tmp 25) (.tmp 27) _ rfl w.heap.size 35 i0 _ 3 40 Try.underlying22 hi0 hz0 hz1 hz2 rfl (by omega) _ k _ rfl ownA w.heap.size (some ⟨wr.heap.size + 1, 0, none⟩) 1 1 (itmsL [⟨K, Bd, rf⟩]) rfl hnew (itm_one [⟨K, Bd, rf⟩]) (by simp only [maxLen]; omega) (by omega) (by simp; omega) ?_; intro v1 w9 hown2 hg2 hat2; obtain ⟨A1, c1, rfl, hd1, hd2⟩ := own_slice hown2; have hZ2 := hid_mk (Blk.grown hZA.out hg2 (own_ne ownA hZA.out)); have hR2 := hid_mk (Blk.grown hRA.out hg2 (own_ne ownA hRA.out)); have q2 := hid_mk (hbA.out.grown hg2 hbA.out.size (fun k hk => (World.ownsRow.lt ownA k hk).1)); have e0 : w9.cell? ⟨w.heap.size + 1 + 1, 0, none⟩ = some (.slice Ao k co) := hZ2.out.cell 0; have e1 := hZ2.out.frozen 0; have e2 := hZ2.out.lt; clear z0 zl hnew ownA hg2 hat2)
        have own3 : Hid (OwnI (w9.setCell ⟨w.heap.size + 1 + 1, 0, none⟩ (.slice A1 (k + 1) c1)) w.heap.size (.slice A1 (k + 1) c1) (k + 1) ((withI is key r).take (k + 1))) := by
          rw [htk2.out]
          unfold OwnI Hid
          rw [itmsL_app]
          exact own_far hown2 hZ2.out (by decide) 0 _
        have hZ3 : Hid (Blk (w9.setCell ⟨w.heap.size + 1 + 1, 0, none⟩ (.slice A1 (k + 1) c1)) (w.heap.size + 1 + 1) 24 #[.slice A1 (k + 1) c1]) := hZ2.out.set_ 0 _
        have hR3 : Hid (Blk (w9.setCell ⟨w.heap.size + 1 + 1, 0, none⟩ (.slice A1 (k + 1) c1)) (w.heap.size + 1) 24 #[.slice none 0 0]) := hR2.out.far (by simp) _
        have q3 : Hid (Below w.heap.size w (w9.setCell ⟨w.heap.size + 1 + 1, 0, none⟩ (.slice A1 (k + 1) c1))) := q2.out.setCell (p := ⟨w.heap.size + 1 + 1, 0, none⟩) (by simp; omega) _
        go_roundw
        case rel => exact ⟨k + 1, _, by go_num, by omega, own3, hZ3, hR3, q3⟩
        case measure => simp [intOf]; omega
    · obtain rfl : n = k := by omega
      have htk : Hid ((withI is key r).take n = withI is key r) := List.take_of_length_le (by unfold withI; rw [List.length_map, hlen.out]; omega)
      have z0 : wr.cell? ⟨w.heap.size + 1 + 1, 0, none⟩ = some (.slice Ao n co) := hZ.out.cell 0
      have zl := hZ.out.lt
      have r0 : wr.cell? ⟨w.heap.size + 1, 0, none⟩ = some (.slice none 0 0) := hR.out.cell 0
      have r1 := hR.out.frozen 0
      have rl := hR.out.lt
      have own3 : OwnI (wr.setCell ⟨w.heap.size + 1, 0, none⟩ (.slice Ao n co)) w.heap.size (.slice Ao n co) n (withI is key r) := by
        have h9 := hown.out
        rw [htk.out] at h9
        exact own_far h9 hR.out (by decide) 0 _
      have q3 : Below w.heap.size w (wr.setCell ⟨w.heap.size + 1, 0, none⟩ (.slice Ao n co)) := hb.out.setCell (p := ⟨w.heap.size + 1, 0, none⟩) (by simp) _
      have hwl : (withI is key r).length = n := by unfold withI; rw [List.length_map, hlen.out]
      replace own3 := hid_mk own3
      replace hwl := hid_mk hwl
      go_wp2
      refine ends_ret hQ (v := .agg #[.slice Ao n co]) (by simp [results, Try.results30, go_sem, r0]) rfl ?_
      exact ⟨.slice Ao n co, rfl, by rw [hwl.out]; exact own3.out, q3⟩
/-- what is held -/
def sweepI (is : List Itm) : List Itm := is.filter fun i => decide (0 < i.r)
theorem sweepI_take {is : List Itm} {k : Nat} {i : Itm} (h : is[k]? = some i) : sweepI (is.take (k + 1)) = sweepI (is.take k) ++ (if 0 < i.r then [i] else []) := by
  unfold sweepI
  rw [List.take_add_one, h, List.filter_append]
  congr 1
  by_cases hr : 0 < i.r <;> simp [hr]
set_option maxRecDepth 100000 in
set_option maxHeartbeats 1600000 in
theorem RSweep_any (is : List Itm) (A : Option Addr) (n cap : Nat) (w : World) {B : Nat} (hm : n ≤ 3518437208800) (h0 : Itms w B A n is) :
    Calls Try.prog 22 #[.agg #[.slice A n cap]] w (RetI w (sweepI is)) := by
  obtain ⟨i0, hi0, hz0, hz1, hz2⟩ := info_parts40 itemJ3
  have hlen := hid_mk h0.len
  have h := hid_mk h0.top
  have hb0 : Hid (Below w.heap.size w (((w.alloc (.cells #[.slice A n cap] 24)).alloc (.cells #[.slice none 0 0] 24)).alloc (.cells #[.slice none 0 0] 24))) := (((Below.refl _ w).alloc (Nat.le_refl _) _).alloc (by rw [World.size_alloc]; omega) _).alloc (by rw [World.size_alloc, World.size_alloc]; omega) _
  have hR0 : Hid (Blk (((w.alloc (.cells #[.slice A n cap] 24)).alloc (.cells #[.slice none 0 0] 24)).alloc (.cells #[.slice none 0 0] 24)) (w.heap.size + 1) 24 #[.slice none 0 0]) := by
    have h1 := Blk.new (w.alloc (.cells #[.slice A n cap] 24)) 24 #[.slice none 0 0]
    rw [World.size_alloc] at h1
    exact h1.alloc _
  have hZ0 : Hid (Blk (((w.alloc (.cells #[.slice A n cap] 24)).alloc (.cells #[.slice none 0 0] 24)).alloc (.cells #[.slice none 0 0] 24)) (w.heap.size + 1 + 1) 24 #[.slice none 0 0]) := by
    have h1 := Blk.new ((w.alloc (.cells #[.slice A n cap] 24)).alloc (.cells #[.slice none 0 0] 24)) 24 #[.slice none 0 0]
    rw [World.size_alloc, World.size_alloc] at h1
    exact h1
  have own0 : Hid (OwnI (((w.alloc (.cells #[.slice A n cap] 24)).alloc (.cells #[.slice none 0 0] 24)).alloc (.cells #[.slice none 0 0] 24)) w.heap.size (.slice none 0 0) 0 (sweepI (is.take 0))) := ⟨rfl, .inl ⟨rfl, rfl⟩⟩
  clear h0
  refine calls_of_wpQ Try.func22 rfl ?_
  intro Q hQ
  simp only [Try.ntmps22, List.size_toArray, List.length_cons, List.length_nil, Nat.reduceAdd, Nat.reduceSub, Array.replicate_succ, Array.replicate_zero, List.push_toArray, List.append_toArray, List.nil_append, List.cons_append]
  go_wp2
  go_loopw [10] (fun iv wr => ∃ (k m : Nat) (v : Value), iv = .int .i64 k ∧ k ≤ n ∧ m ≤ k ∧ Hid (OwnI wr w.heap.size v m (sweepI (is.take k))) ∧ Hid (Blk wr (w.heap.size + 1 + 1) 24 #[v]) ∧ Hid (Blk wr (w.heap.size + 1) 24 #[.slice none 0 0]) ∧ Hid (Below w.heap.size w wr)) (fun iv _ => n - (intOf iv).toNat)
  case atStart => exact ⟨0, 0, _, rfl, Nat.zero_le _, Nat.le_refl _, own0, hZ0, hR0, hb0⟩
  case round =>
    clear hb0 hR0 hZ0 own0
    obtain ⟨k, m, v, rfl, hk, hmk, hown, hZ, hR, hb⟩ := hrel
    obtain ⟨Ao, co, rfl, hco1, hco2⟩ := own_slice hown.out
    by_cases hlt : k < n
    · obtain ⟨b, o, i, rfl, hbl, hik, c0, c1, c2⟩ := (h.out.to hb.out).at_ hlt
      have htk := hid_mk (sweepI_take hik)
      obtain ⟨K, Bd, rf⟩ := i
      dsimp only at c0 c1 c2 htk
      have k0 : (0 : Int) ≤ k := by omega
      have k1 : (k : Int) < n := by omega
      have hws := hb.out.size
      replace hik := hid_mk hik
      by_cases hrf : 0 < rf
      · have htk2 : Hid (sweepI (is.take (k + 1)) = sweepI (is.take k) ++ [⟨K, Bd, rf⟩]) := by have h1 := htk.out; rw [if_pos hrf] at h1; exact h1
        have z0 : wr.cell? ⟨w.heap.size + 1 + 1, 0, none⟩ = some (.slice Ao m co) := hZ.out.cell 0
        have zl := hZ.out.lt
        clear htk
        have hnew : Itms ((wr.alloc (.cells #[.string K, .string Bd, .int .i64 rf] 35)).alloc (.cells #[.string K, .string Bd, .int .i64 rf] 35)) w.heap.size (some ⟨wr.heap.size + 1, 0, none⟩) 1 [⟨K, Bd, rf⟩] := by
          have h1 := reads_new (wr.alloc (.cells #[.string K, .string Bd, .int .i64 rf] 35)) #[.string K, .string Bd, .int .i64 rf] 35 1 3 w.heap.size rfl
          rw [World.size_alloc] at h1
          exact h1
        have hbA : Hid (Below w.heap.size w ((wr.alloc (.cells #[.string K, .string Bd, .int .i64 rf] 35)).alloc (.cells #[.string K, .string Bd, .int .i64 rf] 35))) := (hb.out.alloc hb.out.size _).alloc (by rw [World.size_alloc]; omega) _
        have hZA : Hid (Blk ((wr.alloc (.cells #[.string K, .string Bd, .int .i64 rf] 35)).alloc (.cells #[.string K, .string Bd, .int .i64 rf] 35)) (w.heap.size + 1 + 1) 24 #[.slice Ao m co]) := (hZ.out.alloc _).alloc _
        have hRA : Hid (Blk ((wr.alloc (.cells #[.string K, .string Bd, .int .i64 rf] 35)).alloc (.cells #[.string K, .string Bd, .int .i64 rf] 35)) (w.heap.size + 1) 24 #[.slice none 0 0]) := (hR.out.alloc _).alloc _
        have ownA : ((wr.alloc (.cells #[.string K, .string Bd, .int .i64 rf] 35)).alloc (.cells #[.string K, .string Bd, .int .i64 rf] 35)).ownsRow w.heap.size 35 3 (.slice Ao m co) m (itmsL (sweepI (is.take k))) := (World.ownsRow.alloc hown.out _).alloc _
        go_wp2_with (at_builtin; refine wpList_append_any _ rfl (.tmp 18) (.tmp 20) _ rfl w.heap.size 35 i0 _ 3 40 Try.underlying22 hi0 hz0 hz1 hz2 rfl (by omega) _ m _ rfl ownA w.heap.size (some ⟨wr.heap.size + 1, 0, none⟩) 1 1 (itmsL [⟨K, Bd, rf⟩]) rfl hnew (itm_one [⟨K, Bd, rf⟩]) (by simp only [maxLen]; omega) (by omega) (by simp; omega) ?_; intro v1 w9 hown2 hg2 hat2; obtain ⟨A1, c1, rfl, hd1, hd2⟩ := own_slice hown2; have hZ2 := hid_mk (Blk.grown hZA.out hg2 (own_ne ownA hZA.out)); have hR2 := hid_mk (Blk.grown hRA.out hg2 (own_ne ownA hRA.out)); have q2 := hid_mk (hbA.out.grown hg2 hbA.out.size (fun k hk => (World.ownsRow.lt ownA k hk).1)); have e0 : w9.cell? ⟨w.heap.size + 1 + 1, 0, none⟩ = some (.slice Ao m co) := hZ2.out.cell 0; have e1 := hZ2.out.frozen 0; have e2 := hZ2.out.lt; clear z0 zl hnew ownA hg2 hat2)
        have own3 : Hid (OwnI (w9.setCell ⟨w.heap.size + 1 + 1, 0, none⟩ (.slice A1 (m + 1) c1)) w.heap.size (.slice A1 (m + 1) c1) (m + 1) (sweepI (is.take (k + 1)))) := by
          rw [htk2.out]
          unfold OwnI Hid
          rw [itmsL_app]
          exact own_far hown2 hZ2.out (by decide) 0 _
        have hZ3 : Hid (Blk (w9.setCell ⟨w.heap.size + 1 + 1, 0, none⟩ (.slice A1 (m + 1) c1)) (w.heap.size + 1 + 1) 24 #[.slice A1 (m + 1) c1]) := hZ2.out.set_ 0 _
        have hR3 : Hid (Blk (w9.setCell ⟨w.heap.size + 1 + 1, 0, none⟩ (.slice A1 (m + 1) c1)) (w.heap.size + 1) 24 #[.slice none 0 0]) := hR2.out.far (by simp) _
        have q3 : Hid (Below w.heap.size w (w9.setCell ⟨w.heap.size + 1 + 1, 0, none⟩ (.slice A1 (m + 1) c1))) := q2.out.setCell (p := ⟨w.heap.size + 1 + 1, 0, none⟩) (by simp; omega) _
        go_roundw
        case rel => exact ⟨k + 1, m + 1, _, by go_num, by omega, by omega, own3, hZ3, hR3, q3⟩
        case measure => simp [intOf]; omega
      · have htk2 : Hid (sweepI (is.take (k + 1)) = sweepI (is.take k)) := by have h1 := htk.out; rw [if_neg hrf, List.append_nil] at h1; exact h1
        clear htk
        have hbA : Hid (Below w.heap.size w (wr.alloc (.cells #[.string K, .string Bd, .int .i64 rf] 35))) := hb.out.alloc hb.out.size _
        have hZA : Hid (Blk (wr.alloc (.cells #[.string K, .string Bd, .int .i64 rf] 35)) (w.heap.size + 1 + 1) 24 #[.slice Ao m co]) := hZ.out.alloc _
        have hRA : Hid (Blk (wr.alloc (.cells #[.string K, .string Bd, .int .i64 rf] 35)) (w.heap.size + 1) 24 #[.slice none 0 0]) := hR.out.alloc _
        have ownA : Hid (OwnI (wr.alloc (.cells #[.string K, .string Bd, .int .i64 rf] 35)) w.heap.size (.slice Ao m co) m (sweepI (is.take (k + 1)))) := by rw [htk2.out]; exact World.ownsRow.alloc hown.out _
        go_wp2
        go_roundw
        case rel => exact ⟨k + 1, m, _, by go_num, by omega, by omega, ownA, hZA, hRA, hbA⟩
        case measure => simp [intOf]; omega
    · obtain rfl : n = k := by omega
      have htk : Hid (is.take n = is) := List.take_of_length_le (by rw [hlen.out]; omega)
      have z0 : wr.cell? ⟨w.heap.size + 1 + 1, 0, none⟩ = some (.slice Ao m co) := hZ.out.cell 0
      have zl := hZ.out.lt
      have r0 : wr.cell? ⟨w.heap.size + 1, 0, none⟩ = some (.slice none 0 0) := hR.out.cell 0
      have r1 := hR.out.frozen 0
      have rl := hR.out.lt
      have own3 : OwnI (wr.setCell ⟨w.heap.size + 1, 0, none⟩ (.slice Ao m co)) w.heap.size (.slice Ao m co) m (sweepI is) := by
        have h9 := hown.out
        rw [htk.out] at h9
        exact own_far h9 hR.out (by decide) 0 _
      have q3 : Below w.heap.size w (wr.setCell ⟨w.heap.size + 1, 0, none⟩ (.slice Ao m co)) := hb.out.setCell (p := ⟨w.heap.size + 1, 0, none⟩) (by simp) _
      have hwl : (sweepI is).length = m := OwnI.len own3
      replace own3 := hid_mk own3
      replace hwl := hid_mk hwl
      go_wp2
      refine ends_ret hQ (v := .agg #[.slice Ao m co]) (by simp [results, Try.results22, go_sem, r0]) rfl ?_
      exact ⟨.slice Ao m co, rfl, by rw [hwl.out]; exact own3.out, q3⟩
end Go.Proofs.Ytngaeencnklbdaa
