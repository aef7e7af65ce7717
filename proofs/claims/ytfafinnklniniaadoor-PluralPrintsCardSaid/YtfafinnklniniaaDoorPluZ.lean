/-
  WHAT IS PROVED HERE: a rule's text, as the reference's Text hands it back: it is ruleB. Conditions: at most 2^43 elements a slice; the variable internal/strconv.uint64pow10 holds the powers of ten.
-/
import Derived.Test.YtfafinnklniniaaDoorPluY
namespace Go.Proofs.YtfafinnklniniaaDoor
open Go.RowKit

theorem ba_ext {a b : ByteArray} (h : a.data.toList = b.data.toList) : a = b := by
  cases a; cases b
  congr 1
  exact Array.toList_inj.1 h
theorem jn_nil (sep : ByteArray) : jnB sep [] = ⟨#[]⟩ := rfl
theorem app_nil (p sep : ByteArray) : p ++ jnB sep [] = p := by
  apply ba_ext
  rw [jn_nil]
  simp
theorem jn_snoc (sep : ByteArray) (l : List ByteArray) (y : ByteArray) : jnB sep (l ++ [y]) = (if 0 < l.length then jnB sep l ++ sep else jnB sep l) ++ y := by
  cases l with
  | nil =>
    apply ba_ext
    rw [if_neg (by simp)]
    simp [jnB, Lib.join_one, Lib.join_nil]
  | cons x r =>
    rw [if_pos (by simp)]
    apply ba_ext
    simp only [jnB, List.cons_append, List.map_cons, List.map_append, List.map_nil, Lib.join_cons, ByteArray.data_append, Array.toList_append, Lib.joinTail, List.flatten_append, List.flatten_cons, List.flatten_nil, List.append_nil, List.append_assoc]
theorem relB_ref (x : Rl) (p : ByteArray) : ((if 0 < x.mod then ((p ++ (⟨#[105]⟩ : ByteArray)) ++ (⟨#[32, 37, 32]⟩ : ByteArray)) ++ itB x.mod else p ++ (⟨#[105]⟩ : ByteArray)) ++ (if x.not then (⟨#[32, 33, 61, 32]⟩ : ByteArray) else (⟨#[32, 61, 32]⟩ : ByteArray))) ++ jnB (⟨#[44]⟩ : ByteArray) (x.spans.map spanB) = p ++ relB x := by
  obtain ⟨m, nt, sp⟩ := x
  apply ba_ext
  unfold relB headB
  by_cases h : 0 < m
  · cases nt <;> simp [h]
  · cases nt <;> simp [h]
theorem cat_to {a b c : ByteArray} {m n : Nat} (he : a ++ b = c) (ha : a.size ≤ m) (hb : b.size ≤ n) (h : m + n ≤ 9223372036854775807) : (∀ w : World, (Op.stringOp .add a b).run Tryd.prog w = .ok (.string c) w) ∧ c.size ≤ m + n := by
  subst he
  exact ⟨cat_ok a b (by omega), by rw [ByteArray.size_append]; omega⟩
theorem jn_sz {sep : ByteArray} {l : List ByteArray} (M : Nat) (hs : sep.size ≤ 5) (hl : l.length ≤ 10) (h : ∀ p ∈ l, p.size ≤ M) : (jnB sep l).size ≤ 10 * M + 50 := by
  rw [jn_size]
  have h1 := jn_len (sep := sep) M h
  have h2 := Nat.mul_le_mul_right M hl
  have h3 := Nat.mul_le_mul hs hl
  omega
theorem rows_sz {l : List (List Rl)} {k : Nat} (hl : l.length ≤ 10) (h : ∀ r ∈ l, rowOk r = true) : (jnB (⟨#[32, 111, 114, 32]⟩ : ByteArray) ((l.take k).map rowB)).size ≤ 3000000000 := by
  have := jn_sz (sep := (⟨#[32, 111, 114, 32]⟩ : ByteArray)) (l := (l.take k).map rowB) 211000050 (by decide) (by rw [List.length_map, List.length_take]; omega) (by
    intro p hp
    obtain ⟨s, hs', rfl⟩ := List.mem_map.1 hp
    exact row_len (h s (List.mem_of_mem_take hs')))
  omega
theorem rels_sz {l : List Rl} {k : Nat} (hl : l.length ≤ 10) (h : ∀ r ∈ l, relOk r = true) : (jnB (⟨#[32, 97, 110, 100, 32]⟩ : ByteArray) ((l.take k).map relB)).size ≤ 300000000 := by
  have := jn_sz (sep := (⟨#[32, 97, 110, 100, 32]⟩ : ByteArray)) (l := (l.take k).map relB) 21100000 (by decide) (by rw [List.length_map, List.length_take]; omega) (by
    intro p hp
    obtain ⟨s, hs', rfl⟩ := List.mem_map.1 hp
    exact rel_len (h s (List.mem_of_mem_take hs')))
  omega
theorem spans_sz {l : List (Int × Int)} {k : Nat} (hl : l.length ≤ 10) (h : ∀ r ∈ l, spanOk r = true) : (jnB (⟨#[44]⟩ : ByteArray) ((l.take k).map spanB)).size ≤ 30000000 := by
  have := jn_sz (sep := (⟨#[44]⟩ : ByteArray)) (l := (l.take k).map spanB) 2000004 (by decide) (by rw [List.length_map, List.length_take]; omega) (by
    intro p hp
    obtain ⟨s, hs', rfl⟩ := List.mem_map.1 hp
    exact span_len (h s (List.mem_of_mem_take hs')))
  omega
theorem blk3z {w : World} {g : Nat} {t : TypeId} {a b c : Value} (h : Blk w g t #[a, b, c]) : g < w.heap.size ∧ w.cell? ⟨g, 0, none⟩ = some a ∧ w.cell? ⟨g, 1, none⟩ = some b ∧ w.cell? ⟨g, 2, none⟩ = some c := ⟨h.lt, h.cell 0, h.cell 1, h.cell 2⟩
theorem blk2z {w : World} {g : Nat} {t : TypeId} {a b : Value} (h : Blk w g t #[a, b]) : g < w.heap.size ∧ w.cell? ⟨g, 0, none⟩ = some a ∧ w.cell? ⟨g, 1, none⟩ = some b := ⟨h.lt, h.cell 0, h.cell 1⟩
theorem snoc_to {α : Type} {f : α → ByteArray} {sep p t : ByteArray} {l : List α} {k : Nat} {x : α} (hd : l.drop k = x :: l.drop (k + 1)) (ht : t = p ++ jnB sep ((l.take k).map f)) : p ++ jnB sep ((l.take (k + 1)).map f) = (if 0 < k then t ++ sep else t) ++ f x := by
  have hk : k < l.length := by
    rcases Nat.lt_or_ge k l.length with h | h
    · exact h
    · rw [List.drop_eq_nil_of_le h] at hd; cases hd
  rw [take_snoc hd, List.map_append, List.map_cons, List.map_nil, jn_snoc, List.length_map, List.length_take, Nat.min_eq_left (by omega), ht]
  by_cases h0 : 0 < k
  · rw [if_pos h0, if_pos h0]
    apply ba_ext
    simp
  · rw [if_neg h0, if_neg h0]
    apply ba_ext
    simp
theorem snoc_to0 {α : Type} {f : α → ByteArray} {sep t : ByteArray} {l : List α} {k : Nat} {x : α} (hd : l.drop k = x :: l.drop (k + 1)) (ht : t = jnB sep ((l.take k).map f)) : jnB sep ((l.take (k + 1)).map f) = (if 0 < k then t ++ sep else t) ++ f x := by
  have hk : k < l.length := by
    rcases Nat.lt_or_ge k l.length with h | h
    · exact h
    · rw [List.drop_eq_nil_of_le h] at hd; cases hd
  rw [take_snoc hd, List.map_append, List.map_cons, List.map_nil, jn_snoc, List.length_map, List.length_take, Nat.min_eq_left (by omega), ht]
set_option maxRecDepth 100000 in
set_option maxHeartbeats 12800000 in
theorem refText_any (l : List (List Rl)) (A : Option Addr) (n c : Nat) (w : World) (B : Nat) (hok : ruleOk l = true) (h : Rule w B A n l) (ht : Tab w) :
    Calls Tryd.prog 9 #[.slice A n c] w fun e w' => e = .returned (.string (ruleB l)) ∧ Below w.heap.size w w' := by
  have hrl := hid_mk (rule_ok hok)
  have hl10 := rule_lens hok
  have hlen := hid_mk h.len
  have hn10 : n ≤ 10 := by have := hlen.out; omega
  have hl10' : Hid (l.length ≤ 10) := hl10.2
  clear hl10 hok
  obtain ⟨V, hV⟩ : ∃ V, ruleB l = V := ⟨_, rfl⟩
  rw [hV]
  replace hV := hid_mk hV
  replace ht := hid_mk ht
  replace h := hid_mk h
  have hb0 : Hid (Below w.heap.size w w) := Below.refl _ _
  refine calls_of_wpQ Tryd.func9 rfl ?_
  intro Q hQ
  simp only [Tryd.ntmps9, List.size_toArray, List.length_cons, List.length_nil, Nat.reduceAdd, Nat.reduceSub, Array.replicate_succ, Array.replicate_zero, List.push_toArray, List.append_toArray, List.nil_append, List.cons_append]
  go_wp2
  go_loopw [3, 12] (fun ov iv wr => ∃ (k : Nat) (S : ByteArray), iv = .int .i64 k ∧ k ≤ n ∧ ov = .string S ∧ Hid (S = jnB (⟨#[32, 111, 114, 32]⟩ : ByteArray) ((l.take k).map rowB)) ∧ Hid (Below w.heap.size w wr)) (fun _ iv _ => n - (intOf iv).toNat)
  case atStart => exact ⟨0, ⟨#[]⟩, rfl, Nat.zero_le _, rfl, rfl, hb0⟩
  case round =>
    obtain ⟨k, S, rfl, hk, rfl, hS, hb⟩ := hrel
    by_cases hlt : k < n
    · obtain ⟨b, o, r, vr, heq, hbl, hd, c0, hRl, _⟩ := (h.out.to hb.out).at_ hlt
      subst heq
      have hrow := hrl.out r (mem_drop' hd.out)
      obtain ⟨Ar, nr, cr⟩ := vr
      unfold slV at c0
      dsimp only at c0 hRl
      have hnr := hRl.len
      have hr10 := row_lens hrow
      have hnr10 : nr ≤ 10 := by omega
      have hr10' : Hid (r.length ≤ 10) := hr10.2
      have hrok := hid_mk (row_ok hrow)
      have zS : Hid (S.size ≤ 3000000000) := by rw [Hid, hS.out]; exact rows_sz hl10'.out hrl.out
      have hnx := hid_mk (snoc_to0 hd.out hS.out)
      have k0 : (0 : Int) ≤ k := by omega
      have k1 : (k : Int) < n := by omega
      replace hnr := hid_mk hnr
      replace hRl := hid_mk hRl
      replace hd := hid_mk hd
      clear hr10 hrow
      by_cases hk0 : 0 < k
      · obtain ⟨pre, e_pre⟩ : ∃ p, S ++ (⟨#[32, 111, 114, 32]⟩ : ByteArray) = p := ⟨_, rfl⟩
        have d_pre := (cat_to (m := 3000000000) (n := 4) e_pre zS.out (by decide) (by decide)).1
        have z_pre : Hid (pre.size ≤ 3000000004) := (cat_to (m := 3000000000) (n := 4) e_pre zS.out (by decide) (by decide)).2
        replace e_pre := hid_mk e_pre
        have k2 : (0 : Int) < k := by omega
        replace hnx : Hid (jnB (⟨#[32, 111, 114, 32]⟩ : ByteArray) ((l.take (k + 1)).map rowB) = pre ++ rowB r) := by rw [Hid, hnx.out, if_pos hk0, e_pre.out]
        go_wp2_with fail
        obtain ⟨wo, hwo⟩ : ∃ wo : World, wo = wr := ⟨_, rfl⟩
        subst hwo
        go_loopw [3, 23] (fun tv jv wr => ∃ (j : Nat) (T : ByteArray), jv = .int .i64 j ∧ j ≤ nr ∧ tv = .string T ∧ Hid (T = pre ++ jnB (⟨#[32, 97, 110, 100, 32]⟩ : ByteArray) ((r.take j).map relB)) ∧ Hid (Below wo.heap.size wo wr)) (fun _ jv _ => nr - (intOf jv).toNat)
        case atStart => exact ⟨0, pre, rfl, Nat.zero_le _, rfl, (app_nil _ _).symm, Below.refl _ _⟩
        case round =>
          obtain ⟨j, T, rfl, hj, rfl, hT, hb2⟩ := hrel
          have q2 := hid_mk (after (w := w) hb2.out hb.out).1
          by_cases hlj : j < nr
          · obtain ⟨b2, o2, x, vx, heq2, hbl2, hd2, d0, d1, d2, hSp, _⟩ := (hRl.out.to hb2.out).at_ hlj
            subst heq2
            obtain ⟨Ax, nx, cx⟩ := vx
            unfold slV at d2
            have hxo := hrok.out x (mem_drop' hd2.out)
            have hnxT := hid_mk (snoc_to hd2.out hT.out)
            have z_T : Hid (T.size ≤ 3300000004) := by rw [Hid, hT.out, ByteArray.size_append]; have := z_pre.out; have := rels_sz (k := j) hr10'.out hrok.out; omega
            have hx10 := rel_lens hxo
            obtain ⟨hmod, hsps⟩ := rel_ok hxo
            obtain ⟨mod, nt, sps⟩ := x
            dsimp only at *
            have hxl := hid_mk hSp.len
            have hs10 : Hid (sps.length ≤ 10) := hx10.2
            have hnx10 : nx ≤ 10 := by have := hxl.out; omega
            replace hsps := hid_mk hsps
            have j0 : (0 : Int) ≤ j := by omega
            have j1 : (j : Int) < nr := by omega
            have qxx : Below wr.heap.size wr (wr.alloc (.cells #[.int .i64 mod, .bool nt, .slice Ax nx cx] 37)) := (Below.refl _ _).alloc (Nat.le_refl _) _
            have hbx := hid_mk (after (w := wo) qxx hb2.out).1
            have qx := hid_mk (after (w := w) qxx q2.out).1
            have hX := hid_mk (Blk.new wr 37 #[.int .i64 mod, .bool nt, .slice Ax nx cx])
            have hSpx := hid_mk (hSp.to qxx)
            replace hd2 := hid_mk hd2
            clear qxx hSp hxo hx10
            by_cases hj0 : 0 < j
            · obtain ⟨p2, e_p2⟩ : ∃ p, T ++ (⟨#[32, 97, 110, 100, 32]⟩ : ByteArray) = p := ⟨_, rfl⟩
              have d_p2 := (cat_to (m := 3300000004) (n := 5) e_p2 z_T.out (by decide) (by decide)).1
              have z_p2 : Hid (p2.size ≤ 3300000009) := (cat_to (m := 3300000004) (n := 5) e_p2 z_T.out (by decide) (by decide)).2
              replace e_p2 := hid_mk e_p2
              have j2 : (0 : Int) < j := by omega
              replace hnxT : Hid (pre ++ jnB (⟨#[32, 97, 110, 100, 32]⟩ : ByteArray) ((r.take (j + 1)).map relB) = p2 ++ relB ⟨mod, nt, sps⟩) := by rw [Hid, hnxT.out, if_pos hj0, e_p2.out]
              obtain ⟨p3, e_p3⟩ : ∃ p, p2 ++ (⟨#[105]⟩ : ByteArray) = p := ⟨_, rfl⟩
              have d_p3 := (cat_to (m := 3300000009) (n := 1) e_p3 z_p2.out (by decide) (by decide)).1
              have z_p3 : Hid (p3.size ≤ 3300000010) := (cat_to (m := 3300000009) (n := 1) e_p3 z_p2.out (by decide) (by decide)).2
              replace e_p3 := hid_mk e_p3
              by_cases hpos : 0 < mod
              · have zmod : Hid ((itB mod).size ≤ 1000001) := it_len (by omega) (by omega)
                obtain ⟨p4, e_p4⟩ : ∃ p, p3 ++ (⟨#[32, 37, 32]⟩ : ByteArray) = p := ⟨_, rfl⟩
                have d_p4 := (cat_to (m := 3300000010) (n := 3) e_p4 z_p3.out (by decide) (by decide)).1
                have z_p4 : Hid (p4.size ≤ 3300000013) := (cat_to (m := 3300000010) (n := 3) e_p4 z_p3.out (by decide) (by decide)).2
                replace e_p4 := hid_mk e_p4
                obtain ⟨p5, e_p5⟩ : ∃ p, p4 ++ itB mod = p := ⟨_, rfl⟩
                have d_p5 := (cat_to (m := 3300000013) (n := 1000001) e_p5 z_p4.out zmod.out (by decide)).1
                have z_p5 : Hid (p5.size ≤ 3301000014) := (cat_to (m := 3300000013) (n := 1000001) e_p5 z_p4.out zmod.out (by decide)).2
                replace e_p5 := hid_mk e_p5
                cases nt
                · obtain ⟨p6, e_p6⟩ : ∃ p, p5 ++ (⟨#[32, 61, 32]⟩ : ByteArray) = p := ⟨_, rfl⟩
                  have d_p6 := (cat_to (m := 3301000014) (n := 4) e_p6 z_p5.out (by decide) (by decide)).1
                  have z_p6 : Hid (p6.size ≤ 3301000018) := (cat_to (m := 3301000014) (n := 4) e_p6 z_p5.out (by decide) (by decide)).2
                  replace e_p6 := hid_mk e_p6
                  have hp6 : Hid (p6 ++ jnB (⟨#[44]⟩ : ByteArray) (sps.map spanB) = p2 ++ relB ⟨mod, false, sps⟩) := by
                    have := relB_ref ⟨mod, false, sps⟩ p2
                    dsimp only at this
                    rw [if_pos hpos, if_neg (by simp), e_p3.out, e_p4.out, e_p5.out, e_p6.out] at this
                    exact this
                  go_wp2_with fail
                  refine (Itoa_any mod _ (by omega) (by omega) (ht.out.to qx.out)).mono ?_
                  rintro e wy ⟨rfl, hbN⟩
                  have hby := hid_mk (after (w := wo) hbN hbx.out).1
                  have qy := hid_mk (after (w := w) hbN qx.out).1
                  have hXy := hid_mk (hX.out.keep hbN)
                  have hSpy := hid_mk (hSpx.out.to hbN)
                  clear hbN hX hSpx hbx qx
                  obtain ⟨y0, y1, y2, y3⟩ := blk3z hXy.out
                  go_wp2_with fail
                  go_loopw [3, 52] (fun mv iv wr => ∃ (i : Nat) (M : ByteArray), iv = .int .i64 i ∧ i ≤ nx ∧ mv = .string M ∧ Hid (M = p6 ++ jnB (⟨#[44]⟩ : ByteArray) ((sps.take i).map spanB)) ∧ Hid (Below wy.heap.size wy wr)) (fun _ iv _ => nx - (intOf iv).toNat)
                  case atStart => exact ⟨0, p6, rfl, Nat.zero_le _, rfl, (app_nil _ _).symm, Below.refl _ _⟩
                  case round =>
                    obtain ⟨i, M, rfl, hi, rfl, hM, hb4⟩ := hrel
                    have q4 := hid_mk (after (w := w) hb4.out qy.out).1
                    have p4 := hid_mk (after (w := wo) hb4.out hby.out).1
                    clear y0 y1 y2 y3
                    obtain ⟨y0, y1, y2, y3⟩ := blk3z (hXy.out.keep hb4.out)
                    by_cases hli : i < nx
                    · obtain ⟨b5, o5, s, heq5, hbl5, hd5, g0, g1⟩ := (hSpy.out.to hb4.out).at_ hli
                      subst heq5
                      obtain ⟨s1, s2, s3⟩ := span_ok (hsps.out s (mem_drop' hd5.out))
                      have hnxM := hid_mk (snoc_to hd5.out hM.out)
                      obtain ⟨lo, hi5⟩ := s
                      dsimp only at *
                      have z_M : Hid (M.size ≤ 3331000018) := by rw [Hid, hM.out, ByteArray.size_append]; have := z_p6.out; have := spans_sz (k := i) hs10.out hsps.out; omega
                      have i0 : (0 : Int) ≤ i := by omega
                      have i1 : (i : Int) < nx := by omega
                      have qx5 : Below wr.heap.size wr (wr.alloc (.cells #[.int .i64 lo, .int .i64 hi5] 45)) := (Below.refl _ _).alloc (Nat.le_refl _) _
                      have hb6 := hid_mk (after (w := wy) qx5 hb4.out).1
                      have q6 := hid_mk (after (w := w) qx5 q4.out).1
                      have hS5 := hid_mk (Blk.new wr 45 #[.int .i64 lo, .int .i64 hi5])
                      clear qx5
                      have zlo : Hid ((itB lo).size ≤ 1000001) := it_len s1 (by omega)
                      have zhi : Hid ((itB hi5).size ≤ 1000001) := it_len (by omega) s3
                      replace hd5 := hid_mk hd5
                      by_cases hi0 : 0 < i
                      · obtain ⟨m1, e_m1⟩ : ∃ p, M ++ (⟨#[44]⟩ : ByteArray) = p := ⟨_, rfl⟩
                        have d_m1 := (cat_to (m := 3331000018) (n := 1) e_m1 z_M.out (by decide) (by decide)).1
                        have z_m1 : Hid (m1.size ≤ 3331000019) := (cat_to (m := 3331000018) (n := 1) e_m1 z_M.out (by decide) (by decide)).2
                        replace e_m1 := hid_mk e_m1
                        have i2 : (0 : Int) < i := by omega
                        replace hnxM : Hid (p6 ++ jnB (⟨#[44]⟩ : ByteArray) ((sps.take (i + 1)).map spanB) = m1 ++ spanB (lo, hi5)) := by rw [Hid, hnxM.out, if_pos hi0, e_m1.out]
                        obtain ⟨m2, e_m2⟩ : ∃ p, m1 ++ itB lo = p := ⟨_, rfl⟩
                        have d_m2 := (cat_to (m := 3331000019) (n := 1000001) e_m2 z_m1.out zlo.out (by decide)).1
                        have z_m2 : Hid (m2.size ≤ 3332000020) := (cat_to (m := 3331000019) (n := 1000001) e_m2 z_m1.out zlo.out (by decide)).2
                        replace e_m2 := hid_mk e_m2
                        by_cases hne : lo = hi5
                        · subst hne
                          have hf : Hid (m2 = p6 ++ jnB (⟨#[44]⟩ : ByteArray) ((sps.take (i + 1)).map spanB)) := by rw [Hid, hnxM.out, show spanB (lo, lo) = itB lo from if_neg (by simp), e_m2.out]
                          go_wp2_with fail
                          refine (Itoa_any lo _ s1 (by omega) (ht.out.to q6.out)).mono ?_
                          rintro e w5 ⟨rfl, hbN⟩
                          have hb7 := hid_mk (after (w := wy) hbN hb6.out).1
                          have hS6 := hid_mk (hS5.out.keep hbN)
                          clear hbN
                          obtain ⟨t0, t1, t2⟩ := blk2z hS6.out
                          go_wp2
                          go_roundw
                          case rel => exact ⟨i + 1, m2, by go_num, by omega, rfl, hf, hb7⟩
                          case measure => simp [intOf]; omega
                        · obtain ⟨m3, e_m3⟩ : ∃ p, m2 ++ (⟨#[46, 46]⟩ : ByteArray) = p := ⟨_, rfl⟩
                          have d_m3 := (cat_to (m := 3332000020) (n := 2) e_m3 z_m2.out (by decide) (by decide)).1
                          have z_m3 : Hid (m3.size ≤ 3332000022) := (cat_to (m := 3332000020) (n := 2) e_m3 z_m2.out (by decide) (by decide)).2
                          replace e_m3 := hid_mk e_m3
                          obtain ⟨m4, e_m4⟩ : ∃ p, m3 ++ itB hi5 = p := ⟨_, rfl⟩
                          have d_m4 := (cat_to (m := 3332000022) (n := 1000001) e_m4 z_m3.out zhi.out (by decide)).1
                          have z_m4 : Hid (m4.size ≤ 3333000023) := (cat_to (m := 3332000022) (n := 1000001) e_m4 z_m3.out zhi.out (by decide)).2
                          replace e_m4 := hid_mk e_m4
                          have hsb : spanB (lo, hi5) = itB lo ++ ((⟨#[46, 46]⟩ : ByteArray) ++ itB hi5) := if_pos (by dsimp only; omega)
                          have hf : Hid (m4 = p6 ++ jnB (⟨#[44]⟩ : ByteArray) ((sps.take (i + 1)).map spanB)) := by
                            rw [Hid, hnxM.out, hsb, ← e_m4.out, ← e_m3.out, ← e_m2.out]
                            apply ba_ext
                            simp
                          clear hsb
                          go_wp2_with fail
                          refine (Itoa_any lo _ s1 (by omega) (ht.out.to q6.out)).mono ?_
                          rintro e w5 ⟨rfl, hbN⟩
                          have hb7 := hid_mk (after (w := wy) hbN hb6.out).1
                          have q7 := hid_mk (after (w := w) hbN q6.out).1
                          have hS6 := hid_mk (hS5.out.keep hbN)
                          clear hbN
                          obtain ⟨t0, t1, t2⟩ := blk2z hS6.out
                          go_wp2_with fail
                          refine (Itoa_any hi5 _ (by omega) s3 (ht.out.to q7.out)).mono ?_
                          rintro e w6 ⟨rfl, hbN⟩
                          have hb8 := hid_mk (after (w := wy) hbN hb7.out).1
                          clear hbN t0 t1 t2
                          go_wp2
                          go_roundw
                          case rel => exact ⟨i + 1, m4, by go_num, by omega, rfl, hf, hb8⟩
                          case measure => simp [intOf]; omega
                      · have i2 : ¬ (0 : Int) < i := by omega
                        replace hnxM : Hid (p6 ++ jnB (⟨#[44]⟩ : ByteArray) ((sps.take (i + 1)).map spanB) = M ++ spanB (lo, hi5)) := by rw [Hid, hnxM.out, if_neg hi0]
                        obtain ⟨m2, e_m2⟩ : ∃ p, M ++ itB lo = p := ⟨_, rfl⟩
                        have d_m2 := (cat_to (m := 3331000018) (n := 1000001) e_m2 z_M.out zlo.out (by decide)).1
                        have z_m2 : Hid (m2.size ≤ 3332000019) := (cat_to (m := 3331000018) (n := 1000001) e_m2 z_M.out zlo.out (by decide)).2
                        replace e_m2 := hid_mk e_m2
                        by_cases hne : lo = hi5
                        · subst hne
                          have hf : Hid (m2 = p6 ++ jnB (⟨#[44]⟩ : ByteArray) ((sps.take (i + 1)).map spanB)) := by rw [Hid, hnxM.out, show spanB (lo, lo) = itB lo from if_neg (by simp), e_m2.out]
                          go_wp2_with fail
                          refine (Itoa_any lo _ s1 (by omega) (ht.out.to q6.out)).mono ?_
                          rintro e w5 ⟨rfl, hbN⟩
                          have hb7 := hid_mk (after (w := wy) hbN hb6.out).1
                          have hS6 := hid_mk (hS5.out.keep hbN)
                          clear hbN
                          obtain ⟨t0, t1, t2⟩ := blk2z hS6.out
                          go_wp2
                          go_roundw
                          case rel => exact ⟨i + 1, m2, by go_num, by omega, rfl, hf, hb7⟩
                          case measure => simp [intOf]; omega
                        · obtain ⟨m3, e_m3⟩ : ∃ p, m2 ++ (⟨#[46, 46]⟩ : ByteArray) = p := ⟨_, rfl⟩
                          have d_m3 := (cat_to (m := 3332000019) (n := 2) e_m3 z_m2.out (by decide) (by decide)).1
                          have z_m3 : Hid (m3.size ≤ 3332000021) := (cat_to (m := 3332000019) (n := 2) e_m3 z_m2.out (by decide) (by decide)).2
                          replace e_m3 := hid_mk e_m3
                          obtain ⟨m4, e_m4⟩ : ∃ p, m3 ++ itB hi5 = p := ⟨_, rfl⟩
                          have d_m4 := (cat_to (m := 3332000021) (n := 1000001) e_m4 z_m3.out zhi.out (by decide)).1
                          have z_m4 : Hid (m4.size ≤ 3333000022) := (cat_to (m := 3332000021) (n := 1000001) e_m4 z_m3.out zhi.out (by decide)).2
                          replace e_m4 := hid_mk e_m4
                          have hsb : spanB (lo, hi5) = itB lo ++ ((⟨#[46, 46]⟩ : ByteArray) ++ itB hi5) := if_pos (by dsimp only; omega)
                          have hf : Hid (m4 = p6 ++ jnB (⟨#[44]⟩ : ByteArray) ((sps.take (i + 1)).map spanB)) := by
                            rw [Hid, hnxM.out, hsb, ← e_m4.out, ← e_m3.out, ← e_m2.out]
                            apply ba_ext
                            simp
                          clear hsb
                          go_wp2_with fail
                          refine (Itoa_any lo _ s1 (by omega) (ht.out.to q6.out)).mono ?_
                          rintro e w5 ⟨rfl, hbN⟩
                          have hb7 := hid_mk (after (w := wy) hbN hb6.out).1
                          have q7 := hid_mk (after (w := w) hbN q6.out).1
                          have hS6 := hid_mk (hS5.out.keep hbN)
                          clear hbN
                          obtain ⟨t0, t1, t2⟩ := blk2z hS6.out
                          go_wp2_with fail
                          refine (Itoa_any hi5 _ (by omega) s3 (ht.out.to q7.out)).mono ?_
                          rintro e w6 ⟨rfl, hbN⟩
                          have hb8 := hid_mk (after (w := wy) hbN hb7.out).1
                          clear hbN t0 t1 t2
                          go_wp2
                          go_roundw
                          case rel => exact ⟨i + 1, m4, by go_num, by omega, rfl, hf, hb8⟩
                          case measure => simp [intOf]; omega
                    · have hts : sps.take i = sps := List.take_of_length_le (by have := hxl.out; omega)
                      have hf : Hid (M = pre ++ jnB (⟨#[32, 97, 110, 100, 32]⟩ : ByteArray) ((r.take (j + 1)).map relB)) := by rw [Hid, hnxT.out, hM.out, hts]; exact hp6.out
                      clear hts
                      go_wp2
                      go_roundw
                      case rel => exact ⟨j + 1, M, by go_num, by omega, rfl, hf, p4⟩
                      case measure => simp [intOf]; omega
                · obtain ⟨p6, e_p6⟩ : ∃ p, p5 ++ (⟨#[32, 33, 61, 32]⟩ : ByteArray) = p := ⟨_, rfl⟩
                  have d_p6 := (cat_to (m := 3301000014) (n := 4) e_p6 z_p5.out (by decide) (by decide)).1
                  have z_p6 : Hid (p6.size ≤ 3301000018) := (cat_to (m := 3301000014) (n := 4) e_p6 z_p5.out (by decide) (by decide)).2
                  replace e_p6 := hid_mk e_p6
                  have hp6 : Hid (p6 ++ jnB (⟨#[44]⟩ : ByteArray) (sps.map spanB) = p2 ++ relB ⟨mod, true, sps⟩) := by
                    have := relB_ref ⟨mod, true, sps⟩ p2
                    dsimp only at this
                    rw [if_pos hpos, if_pos rfl, e_p3.out, e_p4.out, e_p5.out, e_p6.out] at this
                    exact this
                  go_wp2_with fail
                  refine (Itoa_any mod _ (by omega) (by omega) (ht.out.to qx.out)).mono ?_
                  rintro e wy ⟨rfl, hbN⟩
                  have hby := hid_mk (after (w := wo) hbN hbx.out).1
                  have qy := hid_mk (after (w := w) hbN qx.out).1
                  have hXy := hid_mk (hX.out.keep hbN)
                  have hSpy := hid_mk (hSpx.out.to hbN)
                  clear hbN hX hSpx hbx qx
                  obtain ⟨y0, y1, y2, y3⟩ := blk3z hXy.out
                  go_wp2_with fail
                  go_loopw [3, 52] (fun mv iv wr => ∃ (i : Nat) (M : ByteArray), iv = .int .i64 i ∧ i ≤ nx ∧ mv = .string M ∧ Hid (M = p6 ++ jnB (⟨#[44]⟩ : ByteArray) ((sps.take i).map spanB)) ∧ Hid (Below wy.heap.size wy wr)) (fun _ iv _ => nx - (intOf iv).toNat)
                  case atStart => exact ⟨0, p6, rfl, Nat.zero_le _, rfl, (app_nil _ _).symm, Below.refl _ _⟩
                  case round =>
                    obtain ⟨i, M, rfl, hi, rfl, hM, hb4⟩ := hrel
                    have q4 := hid_mk (after (w := w) hb4.out qy.out).1
                    have p4 := hid_mk (after (w := wo) hb4.out hby.out).1
                    clear y0 y1 y2 y3
                    obtain ⟨y0, y1, y2, y3⟩ := blk3z (hXy.out.keep hb4.out)
                    by_cases hli : i < nx
                    · obtain ⟨b5, o5, s, heq5, hbl5, hd5, g0, g1⟩ := (hSpy.out.to hb4.out).at_ hli
                      subst heq5
                      obtain ⟨s1, s2, s3⟩ := span_ok (hsps.out s (mem_drop' hd5.out))
                      have hnxM := hid_mk (snoc_to hd5.out hM.out)
                      obtain ⟨lo, hi5⟩ := s
                      dsimp only at *
                      have z_M : Hid (M.size ≤ 3331000018) := by rw [Hid, hM.out, ByteArray.size_append]; have := z_p6.out; have := spans_sz (k := i) hs10.out hsps.out; omega
                      have i0 : (0 : Int) ≤ i := by omega
                      have i1 : (i : Int) < nx := by omega
                      have qx5 : Below wr.heap.size wr (wr.alloc (.cells #[.int .i64 lo, .int .i64 hi5] 45)) := (Below.refl _ _).alloc (Nat.le_refl _) _
                      have hb6 := hid_mk (after (w := wy) qx5 hb4.out).1
                      have q6 := hid_mk (after (w := w) qx5 q4.out).1
                      have hS5 := hid_mk (Blk.new wr 45 #[.int .i64 lo, .int .i64 hi5])
                      clear qx5
                      have zlo : Hid ((itB lo).size ≤ 1000001) := it_len s1 (by omega)
                      have zhi : Hid ((itB hi5).size ≤ 1000001) := it_len (by omega) s3
                      replace hd5 := hid_mk hd5
                      by_cases hi0 : 0 < i
                      · obtain ⟨m1, e_m1⟩ : ∃ p, M ++ (⟨#[44]⟩ : ByteArray) = p := ⟨_, rfl⟩
                        have d_m1 := (cat_to (m := 3331000018) (n := 1) e_m1 z_M.out (by decide) (by decide)).1
                        have z_m1 : Hid (m1.size ≤ 3331000019) := (cat_to (m := 3331000018) (n := 1) e_m1 z_M.out (by decide) (by decide)).2
                        replace e_m1 := hid_mk e_m1
                        have i2 : (0 : Int) < i := by omega
                        replace hnxM : Hid (p6 ++ jnB (⟨#[44]⟩ : ByteArray) ((sps.take (i + 1)).map spanB) = m1 ++ spanB (lo, hi5)) := by rw [Hid, hnxM.out, if_pos hi0, e_m1.out]
                        obtain ⟨m2, e_m2⟩ : ∃ p, m1 ++ itB lo = p := ⟨_, rfl⟩
                        have d_m2 := (cat_to (m := 3331000019) (n := 1000001) e_m2 z_m1.out zlo.out (by decide)).1
                        have z_m2 : Hid (m2.size ≤ 3332000020) := (cat_to (m := 3331000019) (n := 1000001) e_m2 z_m1.out zlo.out (by decide)).2
                        replace e_m2 := hid_mk e_m2
                        by_cases hne : lo = hi5
                        · subst hne
                          have hf : Hid (m2 = p6 ++ jnB (⟨#[44]⟩ : ByteArray) ((sps.take (i + 1)).map spanB)) := by rw [Hid, hnxM.out, show spanB (lo, lo) = itB lo from if_neg (by simp), e_m2.out]
                          go_wp2_with fail
                          refine (Itoa_any lo _ s1 (by omega) (ht.out.to q6.out)).mono ?_
                          rintro e w5 ⟨rfl, hbN⟩
                          have hb7 := hid_mk (after (w := wy) hbN hb6.out).1
                          have hS6 := hid_mk (hS5.out.keep hbN)
                          clear hbN
                          obtain ⟨t0, t1, t2⟩ := blk2z hS6.out
                          go_wp2
                          go_roundw
                          case rel => exact ⟨i + 1, m2, by go_num, by omega, rfl, hf, hb7⟩
                          case measure => simp [intOf]; omega
                        · obtain ⟨m3, e_m3⟩ : ∃ p, m2 ++ (⟨#[46, 46]⟩ : ByteArray) = p := ⟨_, rfl⟩
                          have d_m3 := (cat_to (m := 3332000020) (n := 2) e_m3 z_m2.out (by decide) (by decide)).1
                          have z_m3 : Hid (m3.size ≤ 3332000022) := (cat_to (m := 3332000020) (n := 2) e_m3 z_m2.out (by decide) (by decide)).2
                          replace e_m3 := hid_mk e_m3
                          obtain ⟨m4, e_m4⟩ : ∃ p, m3 ++ itB hi5 = p := ⟨_, rfl⟩
                          have d_m4 := (cat_to (m := 3332000022) (n := 1000001) e_m4 z_m3.out zhi.out (by decide)).1
                          have z_m4 : Hid (m4.size ≤ 3333000023) := (cat_to (m := 3332000022) (n := 1000001) e_m4 z_m3.out zhi.out (by decide)).2
                          replace e_m4 := hid_mk e_m4
                          have hsb : spanB (lo, hi5) = itB lo ++ ((⟨#[46, 46]⟩ : ByteArray) ++ itB hi5) := if_pos (by dsimp only; omega)
                          have hf : Hid (m4 = p6 ++ jnB (⟨#[44]⟩ : ByteArray) ((sps.take (i + 1)).map spanB)) := by
                            rw [Hid, hnxM.out, hsb, ← e_m4.out, ← e_m3.out, ← e_m2.out]
                            apply ba_ext
                            simp
                          clear hsb
                          go_wp2_with fail
                          refine (Itoa_any lo _ s1 (by omega) (ht.out.to q6.out)).mono ?_
                          rintro e w5 ⟨rfl, hbN⟩
                          have hb7 := hid_mk (after (w := wy) hbN hb6.out).1
                          have q7 := hid_mk (after (w := w) hbN q6.out).1
                          have hS6 := hid_mk (hS5.out.keep hbN)
                          clear hbN
                          obtain ⟨t0, t1, t2⟩ := blk2z hS6.out
                          go_wp2_with fail
                          refine (Itoa_any hi5 _ (by omega) s3 (ht.out.to q7.out)).mono ?_
                          rintro e w6 ⟨rfl, hbN⟩
                          have hb8 := hid_mk (after (w := wy) hbN hb7.out).1
                          clear hbN t0 t1 t2
                          go_wp2
                          go_roundw
                          case rel => exact ⟨i + 1, m4, by go_num, by omega, rfl, hf, hb8⟩
                          case measure => simp [intOf]; omega
                      · have i2 : ¬ (0 : Int) < i := by omega
                        replace hnxM : Hid (p6 ++ jnB (⟨#[44]⟩ : ByteArray) ((sps.take (i + 1)).map spanB) = M ++ spanB (lo, hi5)) := by rw [Hid, hnxM.out, if_neg hi0]
                        obtain ⟨m2, e_m2⟩ : ∃ p, M ++ itB lo = p := ⟨_, rfl⟩
                        have d_m2 := (cat_to (m := 3331000018) (n := 1000001) e_m2 z_M.out zlo.out (by decide)).1
                        have z_m2 : Hid (m2.size ≤ 3332000019) := (cat_to (m := 3331000018) (n := 1000001) e_m2 z_M.out zlo.out (by decide)).2
                        replace e_m2 := hid_mk e_m2
                        by_cases hne : lo = hi5
                        · subst hne
                          have hf : Hid (m2 = p6 ++ jnB (⟨#[44]⟩ : ByteArray) ((sps.take (i + 1)).map spanB)) := by rw [Hid, hnxM.out, show spanB (lo, lo) = itB lo from if_neg (by simp), e_m2.out]
                          go_wp2_with fail
                          refine (Itoa_any lo _ s1 (by omega) (ht.out.to q6.out)).mono ?_
                          rintro e w5 ⟨rfl, hbN⟩
                          have hb7 := hid_mk (after (w := wy) hbN hb6.out).1
                          have hS6 := hid_mk (hS5.out.keep hbN)
                          clear hbN
                          obtain ⟨t0, t1, t2⟩ := blk2z hS6.out
                          go_wp2
                          go_roundw
                          case rel => exact ⟨i + 1, m2, by go_num, by omega, rfl, hf, hb7⟩
                          case measure => simp [intOf]; omega
                        · obtain ⟨m3, e_m3⟩ : ∃ p, m2 ++ (⟨#[46, 46]⟩ : ByteArray) = p := ⟨_, rfl⟩
                          have d_m3 := (cat_to (m := 3332000019) (n := 2) e_m3 z_m2.out (by decide) (by decide)).1
                          have z_m3 : Hid (m3.size ≤ 3332000021) := (cat_to (m := 3332000019) (n := 2) e_m3 z_m2.out (by decide) (by decide)).2
                          replace e_m3 := hid_mk e_m3
                          obtain ⟨m4, e_m4⟩ : ∃ p, m3 ++ itB hi5 = p := ⟨_, rfl⟩
                          have d_m4 := (cat_to (m := 3332000021) (n := 1000001) e_m4 z_m3.out zhi.out (by decide)).1
                          have z_m4 : Hid (m4.size ≤ 3333000022) := (cat_to (m := 3332000021) (n := 1000001) e_m4 z_m3.out zhi.out (by decide)).2
                          replace e_m4 := hid_mk e_m4
                          have hsb : spanB (lo, hi5) = itB lo ++ ((⟨#[46, 46]⟩ : ByteArray) ++ itB hi5) := if_pos (by dsimp only; omega)
                          have hf : Hid (m4 = p6 ++ jnB (⟨#[44]⟩ : ByteArray) ((sps.take (i + 1)).map spanB)) := by
                            rw [Hid, hnxM.out, hsb, ← e_m4.out, ← e_m3.out, ← e_m2.out]
                            apply ba_ext
                            simp
                          clear hsb
                          go_wp2_with fail
                          refine (Itoa_any lo _ s1 (by omega) (ht.out.to q6.out)).mono ?_
                          rintro e w5 ⟨rfl, hbN⟩
                          have hb7 := hid_mk (after (w := wy) hbN hb6.out).1
                          have q7 := hid_mk (after (w := w) hbN q6.out).1
                          have hS6 := hid_mk (hS5.out.keep hbN)
                          clear hbN
                          obtain ⟨t0, t1, t2⟩ := blk2z hS6.out
                          go_wp2_with fail
                          refine (Itoa_any hi5 _ (by omega) s3 (ht.out.to q7.out)).mono ?_
                          rintro e w6 ⟨rfl, hbN⟩
                          have hb8 := hid_mk (after (w := wy) hbN hb7.out).1
                          clear hbN t0 t1 t2
                          go_wp2
                          go_roundw
                          case rel => exact ⟨i + 1, m4, by go_num, by omega, rfl, hf, hb8⟩
                          case measure => simp [intOf]; omega
                    · have hts : sps.take i = sps := List.take_of_length_le (by have := hxl.out; omega)
                      have hf : Hid (M = pre ++ jnB (⟨#[32, 97, 110, 100, 32]⟩ : ByteArray) ((r.take (j + 1)).map relB)) := by rw [Hid, hnxT.out, hM.out, hts]; exact hp6.out
                      clear hts
                      go_wp2
                      go_roundw
                      case rel => exact ⟨j + 1, M, by go_num, by omega, rfl, hf, p4⟩
                      case measure => simp [intOf]; omega
              · cases nt
                · obtain ⟨p6, e_p6⟩ : ∃ p, p3 ++ (⟨#[32, 61, 32]⟩ : ByteArray) = p := ⟨_, rfl⟩
                  have d_p6 := (cat_to (m := 3300000010) (n := 4) e_p6 z_p3.out (by decide) (by decide)).1
                  have z_p6 : Hid (p6.size ≤ 3300000014) := (cat_to (m := 3300000010) (n := 4) e_p6 z_p3.out (by decide) (by decide)).2
                  replace e_p6 := hid_mk e_p6
                  have hp6 : Hid (p6 ++ jnB (⟨#[44]⟩ : ByteArray) (sps.map spanB) = p2 ++ relB ⟨mod, false, sps⟩) := by
                    have := relB_ref ⟨mod, false, sps⟩ p2
                    dsimp only at this
                    rw [if_neg hpos, if_neg (by simp), e_p3.out, e_p6.out] at this
                    exact this
                  go_wp2_with fail
                  obtain ⟨wy, hwy⟩ : ∃ wy, wr.alloc (.cells #[.int .i64 mod, .bool false, .slice Ax nx cx] 37) = wy := ⟨_, rfl⟩
                  rw [hwy] at hbx qx hX hSpx ⊢
                  clear hwy
                  have hby := hbx
                  have qy := qx
                  have hXy := hX
                  have hSpy := hSpx
                  clear hX hSpx hbx qx
                  obtain ⟨y0, y1, y2, y3⟩ := blk3z hXy.out
                  go_loopw [3, 52] (fun mv iv wr => ∃ (i : Nat) (M : ByteArray), iv = .int .i64 i ∧ i ≤ nx ∧ mv = .string M ∧ Hid (M = p6 ++ jnB (⟨#[44]⟩ : ByteArray) ((sps.take i).map spanB)) ∧ Hid (Below wy.heap.size wy wr)) (fun _ iv _ => nx - (intOf iv).toNat)
                  case atStart => exact ⟨0, p6, rfl, Nat.zero_le _, rfl, (app_nil _ _).symm, Below.refl _ _⟩
                  case round =>
                    obtain ⟨i, M, rfl, hi, rfl, hM, hb4⟩ := hrel
                    have q4 := hid_mk (after (w := w) hb4.out qy.out).1
                    have p4 := hid_mk (after (w := wo) hb4.out hby.out).1
                    clear y0 y1 y2 y3
                    obtain ⟨y0, y1, y2, y3⟩ := blk3z (hXy.out.keep hb4.out)
                    by_cases hli : i < nx
                    · obtain ⟨b5, o5, s, heq5, hbl5, hd5, g0, g1⟩ := (hSpy.out.to hb4.out).at_ hli
                      subst heq5
                      obtain ⟨s1, s2, s3⟩ := span_ok (hsps.out s (mem_drop' hd5.out))
                      have hnxM := hid_mk (snoc_to hd5.out hM.out)
                      obtain ⟨lo, hi5⟩ := s
                      dsimp only at *
                      have z_M : Hid (M.size ≤ 3330000014) := by rw [Hid, hM.out, ByteArray.size_append]; have := z_p6.out; have := spans_sz (k := i) hs10.out hsps.out; omega
                      have i0 : (0 : Int) ≤ i := by omega
                      have i1 : (i : Int) < nx := by omega
                      have qx5 : Below wr.heap.size wr (wr.alloc (.cells #[.int .i64 lo, .int .i64 hi5] 45)) := (Below.refl _ _).alloc (Nat.le_refl _) _
                      have hb6 := hid_mk (after (w := wy) qx5 hb4.out).1
                      have q6 := hid_mk (after (w := w) qx5 q4.out).1
                      have hS5 := hid_mk (Blk.new wr 45 #[.int .i64 lo, .int .i64 hi5])
                      clear qx5
                      have zlo : Hid ((itB lo).size ≤ 1000001) := it_len s1 (by omega)
                      have zhi : Hid ((itB hi5).size ≤ 1000001) := it_len (by omega) s3
                      replace hd5 := hid_mk hd5
                      by_cases hi0 : 0 < i
                      · obtain ⟨m1, e_m1⟩ : ∃ p, M ++ (⟨#[44]⟩ : ByteArray) = p := ⟨_, rfl⟩
                        have d_m1 := (cat_to (m := 3330000014) (n := 1) e_m1 z_M.out (by decide) (by decide)).1
                        have z_m1 : Hid (m1.size ≤ 3330000015) := (cat_to (m := 3330000014) (n := 1) e_m1 z_M.out (by decide) (by decide)).2
                        replace e_m1 := hid_mk e_m1
                        have i2 : (0 : Int) < i := by omega
                        replace hnxM : Hid (p6 ++ jnB (⟨#[44]⟩ : ByteArray) ((sps.take (i + 1)).map spanB) = m1 ++ spanB (lo, hi5)) := by rw [Hid, hnxM.out, if_pos hi0, e_m1.out]
                        obtain ⟨m2, e_m2⟩ : ∃ p, m1 ++ itB lo = p := ⟨_, rfl⟩
                        have d_m2 := (cat_to (m := 3330000015) (n := 1000001) e_m2 z_m1.out zlo.out (by decide)).1
                        have z_m2 : Hid (m2.size ≤ 3331000016) := (cat_to (m := 3330000015) (n := 1000001) e_m2 z_m1.out zlo.out (by decide)).2
                        replace e_m2 := hid_mk e_m2
                        by_cases hne : lo = hi5
                        · subst hne
                          have hf : Hid (m2 = p6 ++ jnB (⟨#[44]⟩ : ByteArray) ((sps.take (i + 1)).map spanB)) := by rw [Hid, hnxM.out, show spanB (lo, lo) = itB lo from if_neg (by simp), e_m2.out]
                          go_wp2_with fail
                          refine (Itoa_any lo _ s1 (by omega) (ht.out.to q6.out)).mono ?_
                          rintro e w5 ⟨rfl, hbN⟩
                          have hb7 := hid_mk (after (w := wy) hbN hb6.out).1
                          have hS6 := hid_mk (hS5.out.keep hbN)
                          clear hbN
                          obtain ⟨t0, t1, t2⟩ := blk2z hS6.out
                          go_wp2
                          go_roundw
                          case rel => exact ⟨i + 1, m2, by go_num, by omega, rfl, hf, hb7⟩
                          case measure => simp [intOf]; omega
                        · obtain ⟨m3, e_m3⟩ : ∃ p, m2 ++ (⟨#[46, 46]⟩ : ByteArray) = p := ⟨_, rfl⟩
                          have d_m3 := (cat_to (m := 3331000016) (n := 2) e_m3 z_m2.out (by decide) (by decide)).1
                          have z_m3 : Hid (m3.size ≤ 3331000018) := (cat_to (m := 3331000016) (n := 2) e_m3 z_m2.out (by decide) (by decide)).2
                          replace e_m3 := hid_mk e_m3
                          obtain ⟨m4, e_m4⟩ : ∃ p, m3 ++ itB hi5 = p := ⟨_, rfl⟩
                          have d_m4 := (cat_to (m := 3331000018) (n := 1000001) e_m4 z_m3.out zhi.out (by decide)).1
                          have z_m4 : Hid (m4.size ≤ 3332000019) := (cat_to (m := 3331000018) (n := 1000001) e_m4 z_m3.out zhi.out (by decide)).2
                          replace e_m4 := hid_mk e_m4
                          have hsb : spanB (lo, hi5) = itB lo ++ ((⟨#[46, 46]⟩ : ByteArray) ++ itB hi5) := if_pos (by dsimp only; omega)
                          have hf : Hid (m4 = p6 ++ jnB (⟨#[44]⟩ : ByteArray) ((sps.take (i + 1)).map spanB)) := by
                            rw [Hid, hnxM.out, hsb, ← e_m4.out, ← e_m3.out, ← e_m2.out]
                            apply ba_ext
                            simp
                          clear hsb
                          go_wp2_with fail
                          refine (Itoa_any lo _ s1 (by omega) (ht.out.to q6.out)).mono ?_
                          rintro e w5 ⟨rfl, hbN⟩
                          have hb7 := hid_mk (after (w := wy) hbN hb6.out).1
                          have q7 := hid_mk (after (w := w) hbN q6.out).1
                          have hS6 := hid_mk (hS5.out.keep hbN)
                          clear hbN
                          obtain ⟨t0, t1, t2⟩ := blk2z hS6.out
                          go_wp2_with fail
                          refine (Itoa_any hi5 _ (by omega) s3 (ht.out.to q7.out)).mono ?_
                          rintro e w6 ⟨rfl, hbN⟩
                          have hb8 := hid_mk (after (w := wy) hbN hb7.out).1
                          clear hbN t0 t1 t2
                          go_wp2
                          go_roundw
                          case rel => exact ⟨i + 1, m4, by go_num, by omega, rfl, hf, hb8⟩
                          case measure => simp [intOf]; omega
                      · have i2 : ¬ (0 : Int) < i := by omega
                        replace hnxM : Hid (p6 ++ jnB (⟨#[44]⟩ : ByteArray) ((sps.take (i + 1)).map spanB) = M ++ spanB (lo, hi5)) := by rw [Hid, hnxM.out, if_neg hi0]
                        obtain ⟨m2, e_m2⟩ : ∃ p, M ++ itB lo = p := ⟨_, rfl⟩
                        have d_m2 := (cat_to (m := 3330000014) (n := 1000001) e_m2 z_M.out zlo.out (by decide)).1
                        have z_m2 : Hid (m2.size ≤ 3331000015) := (cat_to (m := 3330000014) (n := 1000001) e_m2 z_M.out zlo.out (by decide)).2
                        replace e_m2 := hid_mk e_m2
                        by_cases hne : lo = hi5
                        · subst hne
                          have hf : Hid (m2 = p6 ++ jnB (⟨#[44]⟩ : ByteArray) ((sps.take (i + 1)).map spanB)) := by rw [Hid, hnxM.out, show spanB (lo, lo) = itB lo from if_neg (by simp), e_m2.out]
                          go_wp2_with fail
                          refine (Itoa_any lo _ s1 (by omega) (ht.out.to q6.out)).mono ?_
                          rintro e w5 ⟨rfl, hbN⟩
                          have hb7 := hid_mk (after (w := wy) hbN hb6.out).1
                          have hS6 := hid_mk (hS5.out.keep hbN)
                          clear hbN
                          obtain ⟨t0, t1, t2⟩ := blk2z hS6.out
                          go_wp2
                          go_roundw
                          case rel => exact ⟨i + 1, m2, by go_num, by omega, rfl, hf, hb7⟩
                          case measure => simp [intOf]; omega
                        · obtain ⟨m3, e_m3⟩ : ∃ p, m2 ++ (⟨#[46, 46]⟩ : ByteArray) = p := ⟨_, rfl⟩
                          have d_m3 := (cat_to (m := 3331000015) (n := 2) e_m3 z_m2.out (by decide) (by decide)).1
                          have z_m3 : Hid (m3.size ≤ 3331000017) := (cat_to (m := 3331000015) (n := 2) e_m3 z_m2.out (by decide) (by decide)).2
                          replace e_m3 := hid_mk e_m3
                          obtain ⟨m4, e_m4⟩ : ∃ p, m3 ++ itB hi5 = p := ⟨_, rfl⟩
                          have d_m4 := (cat_to (m := 3331000017) (n := 1000001) e_m4 z_m3.out zhi.out (by decide)).1
                          have z_m4 : Hid (m4.size ≤ 3332000018) := (cat_to (m := 3331000017) (n := 1000001) e_m4 z_m3.out zhi.out (by decide)).2
                          replace e_m4 := hid_mk e_m4
                          have hsb : spanB (lo, hi5) = itB lo ++ ((⟨#[46, 46]⟩ : ByteArray) ++ itB hi5) := if_pos (by dsimp only; omega)
                          have hf : Hid (m4 = p6 ++ jnB (⟨#[44]⟩ : ByteArray) ((sps.take (i + 1)).map spanB)) := by
                            rw [Hid, hnxM.out, hsb, ← e_m4.out, ← e_m3.out, ← e_m2.out]
                            apply ba_ext
                            simp
                          clear hsb
                          go_wp2_with fail
                          refine (Itoa_any lo _ s1 (by omega) (ht.out.to q6.out)).mono ?_
                          rintro e w5 ⟨rfl, hbN⟩
                          have hb7 := hid_mk (after (w := wy) hbN hb6.out).1
                          have q7 := hid_mk (after (w := w) hbN q6.out).1
                          have hS6 := hid_mk (hS5.out.keep hbN)
                          clear hbN
                          obtain ⟨t0, t1, t2⟩ := blk2z hS6.out
                          go_wp2_with fail
                          refine (Itoa_any hi5 _ (by omega) s3 (ht.out.to q7.out)).mono ?_
                          rintro e w6 ⟨rfl, hbN⟩
                          have hb8 := hid_mk (after (w := wy) hbN hb7.out).1
                          clear hbN t0 t1 t2
                          go_wp2
                          go_roundw
                          case rel => exact ⟨i + 1, m4, by go_num, by omega, rfl, hf, hb8⟩
                          case measure => simp [intOf]; omega
                    · have hts : sps.take i = sps := List.take_of_length_le (by have := hxl.out; omega)
                      have hf : Hid (M = pre ++ jnB (⟨#[32, 97, 110, 100, 32]⟩ : ByteArray) ((r.take (j + 1)).map relB)) := by rw [Hid, hnxT.out, hM.out, hts]; exact hp6.out
                      clear hts
                      go_wp2
                      go_roundw
                      case rel => exact ⟨j + 1, M, by go_num, by omega, rfl, hf, p4⟩
                      case measure => simp [intOf]; omega
                · obtain ⟨p6, e_p6⟩ : ∃ p, p3 ++ (⟨#[32, 33, 61, 32]⟩ : ByteArray) = p := ⟨_, rfl⟩
                  have d_p6 := (cat_to (m := 3300000010) (n := 4) e_p6 z_p3.out (by decide) (by decide)).1
                  have z_p6 : Hid (p6.size ≤ 3300000014) := (cat_to (m := 3300000010) (n := 4) e_p6 z_p3.out (by decide) (by decide)).2
                  replace e_p6 := hid_mk e_p6
                  have hp6 : Hid (p6 ++ jnB (⟨#[44]⟩ : ByteArray) (sps.map spanB) = p2 ++ relB ⟨mod, true, sps⟩) := by
                    have := relB_ref ⟨mod, true, sps⟩ p2
                    dsimp only at this
                    rw [if_neg hpos, if_pos rfl, e_p3.out, e_p6.out] at this
                    exact this
                  go_wp2_with fail
                  obtain ⟨wy, hwy⟩ : ∃ wy, wr.alloc (.cells #[.int .i64 mod, .bool true, .slice Ax nx cx] 37) = wy := ⟨_, rfl⟩
                  rw [hwy] at hbx qx hX hSpx ⊢
                  clear hwy
                  have hby := hbx
                  have qy := qx
                  have hXy := hX
                  have hSpy := hSpx
                  clear hX hSpx hbx qx
                  obtain ⟨y0, y1, y2, y3⟩ := blk3z hXy.out
                  go_loopw [3, 52] (fun mv iv wr => ∃ (i : Nat) (M : ByteArray), iv = .int .i64 i ∧ i ≤ nx ∧ mv = .string M ∧ Hid (M = p6 ++ jnB (⟨#[44]⟩ : ByteArray) ((sps.take i).map spanB)) ∧ Hid (Below wy.heap.size wy wr)) (fun _ iv _ => nx - (intOf iv).toNat)
                  case atStart => exact ⟨0, p6, rfl, Nat.zero_le _, rfl, (app_nil _ _).symm, Below.refl _ _⟩
                  case round =>
                    obtain ⟨i, M, rfl, hi, rfl, hM, hb4⟩ := hrel
                    have q4 := hid_mk (after (w := w) hb4.out qy.out).1
                    have p4 := hid_mk (after (w := wo) hb4.out hby.out).1
                    clear y0 y1 y2 y3
                    obtain ⟨y0, y1, y2, y3⟩ := blk3z (hXy.out.keep hb4.out)
                    by_cases hli : i < nx
                    · obtain ⟨b5, o5, s, heq5, hbl5, hd5, g0, g1⟩ := (hSpy.out.to hb4.out).at_ hli
                      subst heq5
                      obtain ⟨s1, s2, s3⟩ := span_ok (hsps.out s (mem_drop' hd5.out))
                      have hnxM := hid_mk (snoc_to hd5.out hM.out)
                      obtain ⟨lo, hi5⟩ := s
                      dsimp only at *
                      have z_M : Hid (M.size ≤ 3330000014) := by rw [Hid, hM.out, ByteArray.size_append]; have := z_p6.out; have := spans_sz (k := i) hs10.out hsps.out; omega
                      have i0 : (0 : Int) ≤ i := by omega
                      have i1 : (i : Int) < nx := by omega
                      have qx5 : Below wr.heap.size wr (wr.alloc (.cells #[.int .i64 lo, .int .i64 hi5] 45)) := (Below.refl _ _).alloc (Nat.le_refl _) _
                      have hb6 := hid_mk (after (w := wy) qx5 hb4.out).1
                      have q6 := hid_mk (after (w := w) qx5 q4.out).1
                      have hS5 := hid_mk (Blk.new wr 45 #[.int .i64 lo, .int .i64 hi5])
                      clear qx5
                      have zlo : Hid ((itB lo).size ≤ 1000001) := it_len s1 (by omega)
                      have zhi : Hid ((itB hi5).size ≤ 1000001) := it_len (by omega) s3
                      replace hd5 := hid_mk hd5
                      by_cases hi0 : 0 < i
                      · obtain ⟨m1, e_m1⟩ : ∃ p, M ++ (⟨#[44]⟩ : ByteArray) = p := ⟨_, rfl⟩
                        have d_m1 := (cat_to (m := 3330000014) (n := 1) e_m1 z_M.out (by decide) (by decide)).1
                        have z_m1 : Hid (m1.size ≤ 3330000015) := (cat_to (m := 3330000014) (n := 1) e_m1 z_M.out (by decide) (by decide)).2
                        replace e_m1 := hid_mk e_m1
                        have i2 : (0 : Int) < i := by omega
                        replace hnxM : Hid (p6 ++ jnB (⟨#[44]⟩ : ByteArray) ((sps.take (i + 1)).map spanB) = m1 ++ spanB (lo, hi5)) := by rw [Hid, hnxM.out, if_pos hi0, e_m1.out]
                        obtain ⟨m2, e_m2⟩ : ∃ p, m1 ++ itB lo = p := ⟨_, rfl⟩
                        have d_m2 := (cat_to (m := 3330000015) (n := 1000001) e_m2 z_m1.out zlo.out (by decide)).1
                        have z_m2 : Hid (m2.size ≤ 3331000016) := (cat_to (m := 3330000015) (n := 1000001) e_m2 z_m1.out zlo.out (by decide)).2
                        replace e_m2 := hid_mk e_m2
                        by_cases hne : lo = hi5
                        · subst hne
                          have hf : Hid (m2 = p6 ++ jnB (⟨#[44]⟩ : ByteArray) ((sps.take (i + 1)).map spanB)) := by rw [Hid, hnxM.out, show spanB (lo, lo) = itB lo from if_neg (by simp), e_m2.out]
                          go_wp2_with fail
                          refine (Itoa_any lo _ s1 (by omega) (ht.out.to q6.out)).mono ?_
                          rintro e w5 ⟨rfl, hbN⟩
                          have hb7 := hid_mk (after (w := wy) hbN hb6.out).1
                          have hS6 := hid_mk (hS5.out.keep hbN)
                          clear hbN
                          obtain ⟨t0, t1, t2⟩ := blk2z hS6.out
                          go_wp2
                          go_roundw
                          case rel => exact ⟨i + 1, m2, by go_num, by omega, rfl, hf, hb7⟩
                          case measure => simp [intOf]; omega
                        · obtain ⟨m3, e_m3⟩ : ∃ p, m2 ++ (⟨#[46, 46]⟩ : ByteArray) = p := ⟨_, rfl⟩
                          have d_m3 := (cat_to (m := 3331000016) (n := 2) e_m3 z_m2.out (by decide) (by decide)).1
                          have z_m3 : Hid (m3.size ≤ 3331000018) := (cat_to (m := 3331000016) (n := 2) e_m3 z_m2.out (by decide) (by decide)).2
                          replace e_m3 := hid_mk e_m3
                          obtain ⟨m4, e_m4⟩ : ∃ p, m3 ++ itB hi5 = p := ⟨_, rfl⟩
                          have d_m4 := (cat_to (m := 3331000018) (n := 1000001) e_m4 z_m3.out zhi.out (by decide)).1
                          have z_m4 : Hid (m4.size ≤ 3332000019) := (cat_to (m := 3331000018) (n := 1000001) e_m4 z_m3.out zhi.out (by decide)).2
                          replace e_m4 := hid_mk e_m4
                          have hsb : spanB (lo, hi5) = itB lo ++ ((⟨#[46, 46]⟩ : ByteArray) ++ itB hi5) := if_pos (by dsimp only; omega)
                          have hf : Hid (m4 = p6 ++ jnB (⟨#[44]⟩ : ByteArray) ((sps.take (i + 1)).map spanB)) := by
                            rw [Hid, hnxM.out, hsb, ← e_m4.out, ← e_m3.out, ← e_m2.out]
                            apply ba_ext
                            simp
                          clear hsb
                          go_wp2_with fail
                          refine (Itoa_any lo _ s1 (by omega) (ht.out.to q6.out)).mono ?_
                          rintro e w5 ⟨rfl, hbN⟩
                          have hb7 := hid_mk (after (w := wy) hbN hb6.out).1
                          have q7 := hid_mk (after (w := w) hbN q6.out).1
                          have hS6 := hid_mk (hS5.out.keep hbN)
                          clear hbN
                          obtain ⟨t0, t1, t2⟩ := blk2z hS6.out
                          go_wp2_with fail
                          refine (Itoa_any hi5 _ (by omega) s3 (ht.out.to q7.out)).mono ?_
                          rintro e w6 ⟨rfl, hbN⟩
                          have hb8 := hid_mk (after (w := wy) hbN hb7.out).1
                          clear hbN t0 t1 t2
                          go_wp2
                          go_roundw
                          case rel => exact ⟨i + 1, m4, by go_num, by omega, rfl, hf, hb8⟩
                          case measure => simp [intOf]; omega
                      · have i2 : ¬ (0 : Int) < i := by omega
                        replace hnxM : Hid (p6 ++ jnB (⟨#[44]⟩ : ByteArray) ((sps.take (i + 1)).map spanB) = M ++ spanB (lo, hi5)) := by rw [Hid, hnxM.out, if_neg hi0]
                        obtain ⟨m2, e_m2⟩ : ∃ p, M ++ itB lo = p := ⟨_, rfl⟩
                        have d_m2 := (cat_to (m := 3330000014) (n := 1000001) e_m2 z_M.out zlo.out (by decide)).1
                        have z_m2 : Hid (m2.size ≤ 3331000015) := (cat_to (m := 3330000014) (n := 1000001) e_m2 z_M.out zlo.out (by decide)).2
                        replace e_m2 := hid_mk e_m2
                        by_cases hne : lo = hi5
                        · subst hne
                          have hf : Hid (m2 = p6 ++ jnB (⟨#[44]⟩ : ByteArray) ((sps.take (i + 1)).map spanB)) := by rw [Hid, hnxM.out, show spanB (lo, lo) = itB lo from if_neg (by simp), e_m2.out]
                          go_wp2_with fail
                          refine (Itoa_any lo _ s1 (by omega) (ht.out.to q6.out)).mono ?_
                          rintro e w5 ⟨rfl, hbN⟩
                          have hb7 := hid_mk (after (w := wy) hbN hb6.out).1
                          have hS6 := hid_mk (hS5.out.keep hbN)
                          clear hbN
                          obtain ⟨t0, t1, t2⟩ := blk2z hS6.out
                          go_wp2
                          go_roundw
                          case rel => exact ⟨i + 1, m2, by go_num, by omega, rfl, hf, hb7⟩
                          case measure => simp [intOf]; omega
                        · obtain ⟨m3, e_m3⟩ : ∃ p, m2 ++ (⟨#[46, 46]⟩ : ByteArray) = p := ⟨_, rfl⟩
                          have d_m3 := (cat_to (m := 3331000015) (n := 2) e_m3 z_m2.out (by decide) (by decide)).1
                          have z_m3 : Hid (m3.size ≤ 3331000017) := (cat_to (m := 3331000015) (n := 2) e_m3 z_m2.out (by decide) (by decide)).2
                          replace e_m3 := hid_mk e_m3
                          obtain ⟨m4, e_m4⟩ : ∃ p, m3 ++ itB hi5 = p := ⟨_, rfl⟩
                          have d_m4 := (cat_to (m := 3331000017) (n := 1000001) e_m4 z_m3.out zhi.out (by decide)).1
                          have z_m4 : Hid (m4.size ≤ 3332000018) := (cat_to (m := 3331000017) (n := 1000001) e_m4 z_m3.out zhi.out (by decide)).2
                          replace e_m4 := hid_mk e_m4
                          have hsb : spanB (lo, hi5) = itB lo ++ ((⟨#[46, 46]⟩ : ByteArray) ++ itB hi5) := if_pos (by dsimp only; omega)
                          have hf : Hid (m4 = p6 ++ jnB (⟨#[44]⟩ : ByteArray) ((sps.take (i + 1)).map spanB)) := by
                            rw [Hid, hnxM.out, hsb, ← e_m4.out, ← e_m3.out, ← e_m2.out]
                            apply ba_ext
                            simp
                          clear hsb
                          go_wp2_with fail
                          refine (Itoa_any lo _ s1 (by omega) (ht.out.to q6.out)).mono ?_
                          rintro e w5 ⟨rfl, hbN⟩
                          have hb7 := hid_mk (after (w := wy) hbN hb6.out).1
                          have q7 := hid_mk (after (w := w) hbN q6.out).1
                          have hS6 := hid_mk (hS5.out.keep hbN)
                          clear hbN
                          obtain ⟨t0, t1, t2⟩ := blk2z hS6.out
                          go_wp2_with fail
                          refine (Itoa_any hi5 _ (by omega) s3 (ht.out.to q7.out)).mono ?_
                          rintro e w6 ⟨rfl, hbN⟩
                          have hb8 := hid_mk (after (w := wy) hbN hb7.out).1
                          clear hbN t0 t1 t2
                          go_wp2
                          go_roundw
                          case rel => exact ⟨i + 1, m4, by go_num, by omega, rfl, hf, hb8⟩
                          case measure => simp [intOf]; omega
                    · have hts : sps.take i = sps := List.take_of_length_le (by have := hxl.out; omega)
                      have hf : Hid (M = pre ++ jnB (⟨#[32, 97, 110, 100, 32]⟩ : ByteArray) ((r.take (j + 1)).map relB)) := by rw [Hid, hnxT.out, hM.out, hts]; exact hp6.out
                      clear hts
                      go_wp2
                      go_roundw
                      case rel => exact ⟨j + 1, M, by go_num, by omega, rfl, hf, p4⟩
                      case measure => simp [intOf]; omega
            · have j2 : ¬ (0 : Int) < j := by omega
              replace hnxT : Hid (pre ++ jnB (⟨#[32, 97, 110, 100, 32]⟩ : ByteArray) ((r.take (j + 1)).map relB) = T ++ relB ⟨mod, nt, sps⟩) := by rw [Hid, hnxT.out, if_neg hj0]
              obtain ⟨p3, e_p3⟩ : ∃ p, T ++ (⟨#[105]⟩ : ByteArray) = p := ⟨_, rfl⟩
              have d_p3 := (cat_to (m := 3300000004) (n := 1) e_p3 z_T.out (by decide) (by decide)).1
              have z_p3 : Hid (p3.size ≤ 3300000005) := (cat_to (m := 3300000004) (n := 1) e_p3 z_T.out (by decide) (by decide)).2
              replace e_p3 := hid_mk e_p3
              by_cases hpos : 0 < mod
              · have zmod : Hid ((itB mod).size ≤ 1000001) := it_len (by omega) (by omega)
                obtain ⟨p4, e_p4⟩ : ∃ p, p3 ++ (⟨#[32, 37, 32]⟩ : ByteArray) = p := ⟨_, rfl⟩
                have d_p4 := (cat_to (m := 3300000005) (n := 3) e_p4 z_p3.out (by decide) (by decide)).1
                have z_p4 : Hid (p4.size ≤ 3300000008) := (cat_to (m := 3300000005) (n := 3) e_p4 z_p3.out (by decide) (by decide)).2
                replace e_p4 := hid_mk e_p4
                obtain ⟨p5, e_p5⟩ : ∃ p, p4 ++ itB mod = p := ⟨_, rfl⟩
                have d_p5 := (cat_to (m := 3300000008) (n := 1000001) e_p5 z_p4.out zmod.out (by decide)).1
                have z_p5 : Hid (p5.size ≤ 3301000009) := (cat_to (m := 3300000008) (n := 1000001) e_p5 z_p4.out zmod.out (by decide)).2
                replace e_p5 := hid_mk e_p5
                cases nt
                · obtain ⟨p6, e_p6⟩ : ∃ p, p5 ++ (⟨#[32, 61, 32]⟩ : ByteArray) = p := ⟨_, rfl⟩
                  have d_p6 := (cat_to (m := 3301000009) (n := 4) e_p6 z_p5.out (by decide) (by decide)).1
                  have z_p6 : Hid (p6.size ≤ 3301000013) := (cat_to (m := 3301000009) (n := 4) e_p6 z_p5.out (by decide) (by decide)).2
                  replace e_p6 := hid_mk e_p6
                  have hp6 : Hid (p6 ++ jnB (⟨#[44]⟩ : ByteArray) (sps.map spanB) = T ++ relB ⟨mod, false, sps⟩) := by
                    have := relB_ref ⟨mod, false, sps⟩ T
                    dsimp only at this
                    rw [if_pos hpos, if_neg (by simp), e_p3.out, e_p4.out, e_p5.out, e_p6.out] at this
                    exact this
                  go_wp2_with fail
                  refine (Itoa_any mod _ (by omega) (by omega) (ht.out.to qx.out)).mono ?_
                  rintro e wy ⟨rfl, hbN⟩
                  have hby := hid_mk (after (w := wo) hbN hbx.out).1
                  have qy := hid_mk (after (w := w) hbN qx.out).1
                  have hXy := hid_mk (hX.out.keep hbN)
                  have hSpy := hid_mk (hSpx.out.to hbN)
                  clear hbN hX hSpx hbx qx
                  obtain ⟨y0, y1, y2, y3⟩ := blk3z hXy.out
                  go_wp2_with fail
                  go_loopw [3, 52] (fun mv iv wr => ∃ (i : Nat) (M : ByteArray), iv = .int .i64 i ∧ i ≤ nx ∧ mv = .string M ∧ Hid (M = p6 ++ jnB (⟨#[44]⟩ : ByteArray) ((sps.take i).map spanB)) ∧ Hid (Below wy.heap.size wy wr)) (fun _ iv _ => nx - (intOf iv).toNat)
                  case atStart => exact ⟨0, p6, rfl, Nat.zero_le _, rfl, (app_nil _ _).symm, Below.refl _ _⟩
                  case round =>
                    obtain ⟨i, M, rfl, hi, rfl, hM, hb4⟩ := hrel
                    have q4 := hid_mk (after (w := w) hb4.out qy.out).1
                    have p4 := hid_mk (after (w := wo) hb4.out hby.out).1
                    clear y0 y1 y2 y3
                    obtain ⟨y0, y1, y2, y3⟩ := blk3z (hXy.out.keep hb4.out)
                    by_cases hli : i < nx
                    · obtain ⟨b5, o5, s, heq5, hbl5, hd5, g0, g1⟩ := (hSpy.out.to hb4.out).at_ hli
                      subst heq5
                      obtain ⟨s1, s2, s3⟩ := span_ok (hsps.out s (mem_drop' hd5.out))
                      have hnxM := hid_mk (snoc_to hd5.out hM.out)
                      obtain ⟨lo, hi5⟩ := s
                      dsimp only at *
                      have z_M : Hid (M.size ≤ 3331000013) := by rw [Hid, hM.out, ByteArray.size_append]; have := z_p6.out; have := spans_sz (k := i) hs10.out hsps.out; omega
                      have i0 : (0 : Int) ≤ i := by omega
                      have i1 : (i : Int) < nx := by omega
                      have qx5 : Below wr.heap.size wr (wr.alloc (.cells #[.int .i64 lo, .int .i64 hi5] 45)) := (Below.refl _ _).alloc (Nat.le_refl _) _
                      have hb6 := hid_mk (after (w := wy) qx5 hb4.out).1
                      have q6 := hid_mk (after (w := w) qx5 q4.out).1
                      have hS5 := hid_mk (Blk.new wr 45 #[.int .i64 lo, .int .i64 hi5])
                      clear qx5
                      have zlo : Hid ((itB lo).size ≤ 1000001) := it_len s1 (by omega)
                      have zhi : Hid ((itB hi5).size ≤ 1000001) := it_len (by omega) s3
                      replace hd5 := hid_mk hd5
                      by_cases hi0 : 0 < i
                      · obtain ⟨m1, e_m1⟩ : ∃ p, M ++ (⟨#[44]⟩ : ByteArray) = p := ⟨_, rfl⟩
                        have d_m1 := (cat_to (m := 3331000013) (n := 1) e_m1 z_M.out (by decide) (by decide)).1
                        have z_m1 : Hid (m1.size ≤ 3331000014) := (cat_to (m := 3331000013) (n := 1) e_m1 z_M.out (by decide) (by decide)).2
                        replace e_m1 := hid_mk e_m1
                        have i2 : (0 : Int) < i := by omega
                        replace hnxM : Hid (p6 ++ jnB (⟨#[44]⟩ : ByteArray) ((sps.take (i + 1)).map spanB) = m1 ++ spanB (lo, hi5)) := by rw [Hid, hnxM.out, if_pos hi0, e_m1.out]
                        obtain ⟨m2, e_m2⟩ : ∃ p, m1 ++ itB lo = p := ⟨_, rfl⟩
                        have d_m2 := (cat_to (m := 3331000014) (n := 1000001) e_m2 z_m1.out zlo.out (by decide)).1
                        have z_m2 : Hid (m2.size ≤ 3332000015) := (cat_to (m := 3331000014) (n := 1000001) e_m2 z_m1.out zlo.out (by decide)).2
                        replace e_m2 := hid_mk e_m2
                        by_cases hne : lo = hi5
                        · subst hne
                          have hf : Hid (m2 = p6 ++ jnB (⟨#[44]⟩ : ByteArray) ((sps.take (i + 1)).map spanB)) := by rw [Hid, hnxM.out, show spanB (lo, lo) = itB lo from if_neg (by simp), e_m2.out]
                          go_wp2_with fail
                          refine (Itoa_any lo _ s1 (by omega) (ht.out.to q6.out)).mono ?_
                          rintro e w5 ⟨rfl, hbN⟩
                          have hb7 := hid_mk (after (w := wy) hbN hb6.out).1
                          have hS6 := hid_mk (hS5.out.keep hbN)
                          clear hbN
                          obtain ⟨t0, t1, t2⟩ := blk2z hS6.out
                          go_wp2
                          go_roundw
                          case rel => exact ⟨i + 1, m2, by go_num, by omega, rfl, hf, hb7⟩
                          case measure => simp [intOf]; omega
                        · obtain ⟨m3, e_m3⟩ : ∃ p, m2 ++ (⟨#[46, 46]⟩ : ByteArray) = p := ⟨_, rfl⟩
                          have d_m3 := (cat_to (m := 3332000015) (n := 2) e_m3 z_m2.out (by decide) (by decide)).1
                          have z_m3 : Hid (m3.size ≤ 3332000017) := (cat_to (m := 3332000015) (n := 2) e_m3 z_m2.out (by decide) (by decide)).2
                          replace e_m3 := hid_mk e_m3
                          obtain ⟨m4, e_m4⟩ : ∃ p, m3 ++ itB hi5 = p := ⟨_, rfl⟩
                          have d_m4 := (cat_to (m := 3332000017) (n := 1000001) e_m4 z_m3.out zhi.out (by decide)).1
                          have z_m4 : Hid (m4.size ≤ 3333000018) := (cat_to (m := 3332000017) (n := 1000001) e_m4 z_m3.out zhi.out (by decide)).2
                          replace e_m4 := hid_mk e_m4
                          have hsb : spanB (lo, hi5) = itB lo ++ ((⟨#[46, 46]⟩ : ByteArray) ++ itB hi5) := if_pos (by dsimp only; omega)
                          have hf : Hid (m4 = p6 ++ jnB (⟨#[44]⟩ : ByteArray) ((sps.take (i + 1)).map spanB)) := by
                            rw [Hid, hnxM.out, hsb, ← e_m4.out, ← e_m3.out, ← e_m2.out]
                            apply ba_ext
                            simp
                          clear hsb
                          go_wp2_with fail
                          refine (Itoa_any lo _ s1 (by omega) (ht.out.to q6.out)).mono ?_
                          rintro e w5 ⟨rfl, hbN⟩
                          have hb7 := hid_mk (after (w := wy) hbN hb6.out).1
                          have q7 := hid_mk (after (w := w) hbN q6.out).1
                          have hS6 := hid_mk (hS5.out.keep hbN)
                          clear hbN
                          obtain ⟨t0, t1, t2⟩ := blk2z hS6.out
                          go_wp2_with fail
                          refine (Itoa_any hi5 _ (by omega) s3 (ht.out.to q7.out)).mono ?_
                          rintro e w6 ⟨rfl, hbN⟩
                          have hb8 := hid_mk (after (w := wy) hbN hb7.out).1
                          clear hbN t0 t1 t2
                          go_wp2
                          go_roundw
                          case rel => exact ⟨i + 1, m4, by go_num, by omega, rfl, hf, hb8⟩
                          case measure => simp [intOf]; omega
                      · have i2 : ¬ (0 : Int) < i := by omega
                        replace hnxM : Hid (p6 ++ jnB (⟨#[44]⟩ : ByteArray) ((sps.take (i + 1)).map spanB) = M ++ spanB (lo, hi5)) := by rw [Hid, hnxM.out, if_neg hi0]
                        obtain ⟨m2, e_m2⟩ : ∃ p, M ++ itB lo = p := ⟨_, rfl⟩
                        have d_m2 := (cat_to (m := 3331000013) (n := 1000001) e_m2 z_M.out zlo.out (by decide)).1
                        have z_m2 : Hid (m2.size ≤ 3332000014) := (cat_to (m := 3331000013) (n := 1000001) e_m2 z_M.out zlo.out (by decide)).2
                        replace e_m2 := hid_mk e_m2
                        by_cases hne : lo = hi5
                        · subst hne
                          have hf : Hid (m2 = p6 ++ jnB (⟨#[44]⟩ : ByteArray) ((sps.take (i + 1)).map spanB)) := by rw [Hid, hnxM.out, show spanB (lo, lo) = itB lo from if_neg (by simp), e_m2.out]
                          go_wp2_with fail
                          refine (Itoa_any lo _ s1 (by omega) (ht.out.to q6.out)).mono ?_
                          rintro e w5 ⟨rfl, hbN⟩
                          have hb7 := hid_mk (after (w := wy) hbN hb6.out).1
                          have hS6 := hid_mk (hS5.out.keep hbN)
                          clear hbN
                          obtain ⟨t0, t1, t2⟩ := blk2z hS6.out
                          go_wp2
                          go_roundw
                          case rel => exact ⟨i + 1, m2, by go_num, by omega, rfl, hf, hb7⟩
                          case measure => simp [intOf]; omega
                        · obtain ⟨m3, e_m3⟩ : ∃ p, m2 ++ (⟨#[46, 46]⟩ : ByteArray) = p := ⟨_, rfl⟩
                          have d_m3 := (cat_to (m := 3332000014) (n := 2) e_m3 z_m2.out (by decide) (by decide)).1
                          have z_m3 : Hid (m3.size ≤ 3332000016) := (cat_to (m := 3332000014) (n := 2) e_m3 z_m2.out (by decide) (by decide)).2
                          replace e_m3 := hid_mk e_m3
                          obtain ⟨m4, e_m4⟩ : ∃ p, m3 ++ itB hi5 = p := ⟨_, rfl⟩
                          have d_m4 := (cat_to (m := 3332000016) (n := 1000001) e_m4 z_m3.out zhi.out (by decide)).1
                          have z_m4 : Hid (m4.size ≤ 3333000017) := (cat_to (m := 3332000016) (n := 1000001) e_m4 z_m3.out zhi.out (by decide)).2
                          replace e_m4 := hid_mk e_m4
                          have hsb : spanB (lo, hi5) = itB lo ++ ((⟨#[46, 46]⟩ : ByteArray) ++ itB hi5) := if_pos (by dsimp only; omega)
                          have hf : Hid (m4 = p6 ++ jnB (⟨#[44]⟩ : ByteArray) ((sps.take (i + 1)).map spanB)) := by
                            rw [Hid, hnxM.out, hsb, ← e_m4.out, ← e_m3.out, ← e_m2.out]
                            apply ba_ext
                            simp
                          clear hsb
                          go_wp2_with fail
                          refine (Itoa_any lo _ s1 (by omega) (ht.out.to q6.out)).mono ?_
                          rintro e w5 ⟨rfl, hbN⟩
                          have hb7 := hid_mk (after (w := wy) hbN hb6.out).1
                          have q7 := hid_mk (after (w := w) hbN q6.out).1
                          have hS6 := hid_mk (hS5.out.keep hbN)
                          clear hbN
                          obtain ⟨t0, t1, t2⟩ := blk2z hS6.out
                          go_wp2_with fail
                          refine (Itoa_any hi5 _ (by omega) s3 (ht.out.to q7.out)).mono ?_
                          rintro e w6 ⟨rfl, hbN⟩
                          have hb8 := hid_mk (after (w := wy) hbN hb7.out).1
                          clear hbN t0 t1 t2
                          go_wp2
                          go_roundw
                          case rel => exact ⟨i + 1, m4, by go_num, by omega, rfl, hf, hb8⟩
                          case measure => simp [intOf]; omega
                    · have hts : sps.take i = sps := List.take_of_length_le (by have := hxl.out; omega)
                      have hf : Hid (M = pre ++ jnB (⟨#[32, 97, 110, 100, 32]⟩ : ByteArray) ((r.take (j + 1)).map relB)) := by rw [Hid, hnxT.out, hM.out, hts]; exact hp6.out
                      clear hts
                      go_wp2
                      go_roundw
                      case rel => exact ⟨j + 1, M, by go_num, by omega, rfl, hf, p4⟩
                      case measure => simp [intOf]; omega
                · obtain ⟨p6, e_p6⟩ : ∃ p, p5 ++ (⟨#[32, 33, 61, 32]⟩ : ByteArray) = p := ⟨_, rfl⟩
                  have d_p6 := (cat_to (m := 3301000009) (n := 4) e_p6 z_p5.out (by decide) (by decide)).1
                  have z_p6 : Hid (p6.size ≤ 3301000013) := (cat_to (m := 3301000009) (n := 4) e_p6 z_p5.out (by decide) (by decide)).2
                  replace e_p6 := hid_mk e_p6
                  have hp6 : Hid (p6 ++ jnB (⟨#[44]⟩ : ByteArray) (sps.map spanB) = T ++ relB ⟨mod, true, sps⟩) := by
                    have := relB_ref ⟨mod, true, sps⟩ T
                    dsimp only at this
                    rw [if_pos hpos, if_pos rfl, e_p3.out, e_p4.out, e_p5.out, e_p6.out] at this
                    exact this
                  go_wp2_with fail
                  refine (Itoa_any mod _ (by omega) (by omega) (ht.out.to qx.out)).mono ?_
                  rintro e wy ⟨rfl, hbN⟩
                  have hby := hid_mk (after (w := wo) hbN hbx.out).1
                  have qy := hid_mk (after (w := w) hbN qx.out).1
                  have hXy := hid_mk (hX.out.keep hbN)
                  have hSpy := hid_mk (hSpx.out.to hbN)
                  clear hbN hX hSpx hbx qx
                  obtain ⟨y0, y1, y2, y3⟩ := blk3z hXy.out
                  go_wp2_with fail
                  go_loopw [3, 52] (fun mv iv wr => ∃ (i : Nat) (M : ByteArray), iv = .int .i64 i ∧ i ≤ nx ∧ mv = .string M ∧ Hid (M = p6 ++ jnB (⟨#[44]⟩ : ByteArray) ((sps.take i).map spanB)) ∧ Hid (Below wy.heap.size wy wr)) (fun _ iv _ => nx - (intOf iv).toNat)
                  case atStart => exact ⟨0, p6, rfl, Nat.zero_le _, rfl, (app_nil _ _).symm, Below.refl _ _⟩
                  case round =>
                    obtain ⟨i, M, rfl, hi, rfl, hM, hb4⟩ := hrel
                    have q4 := hid_mk (after (w := w) hb4.out qy.out).1
                    have p4 := hid_mk (after (w := wo) hb4.out hby.out).1
                    clear y0 y1 y2 y3
                    obtain ⟨y0, y1, y2, y3⟩ := blk3z (hXy.out.keep hb4.out)
                    by_cases hli : i < nx
                    · obtain ⟨b5, o5, s, heq5, hbl5, hd5, g0, g1⟩ := (hSpy.out.to hb4.out).at_ hli
                      subst heq5
                      obtain ⟨s1, s2, s3⟩ := span_ok (hsps.out s (mem_drop' hd5.out))
                      have hnxM := hid_mk (snoc_to hd5.out hM.out)
                      obtain ⟨lo, hi5⟩ := s
                      dsimp only at *
                      have z_M : Hid (M.size ≤ 3331000013) := by rw [Hid, hM.out, ByteArray.size_append]; have := z_p6.out; have := spans_sz (k := i) hs10.out hsps.out; omega
                      have i0 : (0 : Int) ≤ i := by omega
                      have i1 : (i : Int) < nx := by omega
                      have qx5 : Below wr.heap.size wr (wr.alloc (.cells #[.int .i64 lo, .int .i64 hi5] 45)) := (Below.refl _ _).alloc (Nat.le_refl _) _
                      have hb6 := hid_mk (after (w := wy) qx5 hb4.out).1
                      have q6 := hid_mk (after (w := w) qx5 q4.out).1
                      have hS5 := hid_mk (Blk.new wr 45 #[.int .i64 lo, .int .i64 hi5])
                      clear qx5
                      have zlo : Hid ((itB lo).size ≤ 1000001) := it_len s1 (by omega)
                      have zhi : Hid ((itB hi5).size ≤ 1000001) := it_len (by omega) s3
                      replace hd5 := hid_mk hd5
                      by_cases hi0 : 0 < i
                      · obtain ⟨m1, e_m1⟩ : ∃ p, M ++ (⟨#[44]⟩ : ByteArray) = p := ⟨_, rfl⟩
                        have d_m1 := (cat_to (m := 3331000013) (n := 1) e_m1 z_M.out (by decide) (by decide)).1
                        have z_m1 : Hid (m1.size ≤ 3331000014) := (cat_to (m := 3331000013) (n := 1) e_m1 z_M.out (by decide) (by decide)).2
                        replace e_m1 := hid_mk e_m1
                        have i2 : (0 : Int) < i := by omega
                        replace hnxM : Hid (p6 ++ jnB (⟨#[44]⟩ : ByteArray) ((sps.take (i + 1)).map spanB) = m1 ++ spanB (lo, hi5)) := by rw [Hid, hnxM.out, if_pos hi0, e_m1.out]
                        obtain ⟨m2, e_m2⟩ : ∃ p, m1 ++ itB lo = p := ⟨_, rfl⟩
                        have d_m2 := (cat_to (m := 3331000014) (n := 1000001) e_m2 z_m1.out zlo.out (by decide)).1
                        have z_m2 : Hid (m2.size ≤ 3332000015) := (cat_to (m := 3331000014) (n := 1000001) e_m2 z_m1.out zlo.out (by decide)).2
                        replace e_m2 := hid_mk e_m2
                        by_cases hne : lo = hi5
                        · subst hne
                          have hf : Hid (m2 = p6 ++ jnB (⟨#[44]⟩ : ByteArray) ((sps.take (i + 1)).map spanB)) := by rw [Hid, hnxM.out, show spanB (lo, lo) = itB lo from if_neg (by simp), e_m2.out]
                          go_wp2_with fail
                          refine (Itoa_any lo _ s1 (by omega) (ht.out.to q6.out)).mono ?_
                          rintro e w5 ⟨rfl, hbN⟩
                          have hb7 := hid_mk (after (w := wy) hbN hb6.out).1
                          have hS6 := hid_mk (hS5.out.keep hbN)
                          clear hbN
                          obtain ⟨t0, t1, t2⟩ := blk2z hS6.out
                          go_wp2
                          go_roundw
                          case rel => exact ⟨i + 1, m2, by go_num, by omega, rfl, hf, hb7⟩
                          case measure => simp [intOf]; omega
                        · obtain ⟨m3, e_m3⟩ : ∃ p, m2 ++ (⟨#[46, 46]⟩ : ByteArray) = p := ⟨_, rfl⟩
                          have d_m3 := (cat_to (m := 3332000015) (n := 2) e_m3 z_m2.out (by decide) (by decide)).1
                          have z_m3 : Hid (m3.size ≤ 3332000017) := (cat_to (m := 3332000015) (n := 2) e_m3 z_m2.out (by decide) (by decide)).2
                          replace e_m3 := hid_mk e_m3
                          obtain ⟨m4, e_m4⟩ : ∃ p, m3 ++ itB hi5 = p := ⟨_, rfl⟩
                          have d_m4 := (cat_to (m := 3332000017) (n := 1000001) e_m4 z_m3.out zhi.out (by decide)).1
                          have z_m4 : Hid (m4.size ≤ 3333000018) := (cat_to (m := 3332000017) (n := 1000001) e_m4 z_m3.out zhi.out (by decide)).2
                          replace e_m4 := hid_mk e_m4
                          have hsb : spanB (lo, hi5) = itB lo ++ ((⟨#[46, 46]⟩ : ByteArray) ++ itB hi5) := if_pos (by dsimp only; omega)
                          have hf : Hid (m4 = p6 ++ jnB (⟨#[44]⟩ : ByteArray) ((sps.take (i + 1)).map spanB)) := by
                            rw [Hid, hnxM.out, hsb, ← e_m4.out, ← e_m3.out, ← e_m2.out]
                            apply ba_ext
                            simp
                          clear hsb
                          go_wp2_with fail
                          refine (Itoa_any lo _ s1 (by omega) (ht.out.to q6.out)).mono ?_
                          rintro e w5 ⟨rfl, hbN⟩
                          have hb7 := hid_mk (after (w := wy) hbN hb6.out).1
                          have q7 := hid_mk (after (w := w) hbN q6.out).1
                          have hS6 := hid_mk (hS5.out.keep hbN)
                          clear hbN
                          obtain ⟨t0, t1, t2⟩ := blk2z hS6.out
                          go_wp2_with fail
                          refine (Itoa_any hi5 _ (by omega) s3 (ht.out.to q7.out)).mono ?_
                          rintro e w6 ⟨rfl, hbN⟩
                          have hb8 := hid_mk (after (w := wy) hbN hb7.out).1
                          clear hbN t0 t1 t2
                          go_wp2
                          go_roundw
                          case rel => exact ⟨i + 1, m4, by go_num, by omega, rfl, hf, hb8⟩
                          case measure => simp [intOf]; omega
                      · have i2 : ¬ (0 : Int) < i := by omega
                        replace hnxM : Hid (p6 ++ jnB (⟨#[44]⟩ : ByteArray) ((sps.take (i + 1)).map spanB) = M ++ spanB (lo, hi5)) := by rw [Hid, hnxM.out, if_neg hi0]
                        obtain ⟨m2, e_m2⟩ : ∃ p, M ++ itB lo = p := ⟨_, rfl⟩
                        have d_m2 := (cat_to (m := 3331000013) (n := 1000001) e_m2 z_M.out zlo.out (by decide)).1
                        have z_m2 : Hid (m2.size ≤ 3332000014) := (cat_to (m := 3331000013) (n := 1000001) e_m2 z_M.out zlo.out (by decide)).2
                        replace e_m2 := hid_mk e_m2
                        by_cases hne : lo = hi5
                        · subst hne
                          have hf : Hid (m2 = p6 ++ jnB (⟨#[44]⟩ : ByteArray) ((sps.take (i + 1)).map spanB)) := by rw [Hid, hnxM.out, show spanB (lo, lo) = itB lo from if_neg (by simp), e_m2.out]
                          go_wp2_with fail
                          refine (Itoa_any lo _ s1 (by omega) (ht.out.to q6.out)).mono ?_
                          rintro e w5 ⟨rfl, hbN⟩
                          have hb7 := hid_mk (after (w := wy) hbN hb6.out).1
                          have hS6 := hid_mk (hS5.out.keep hbN)
                          clear hbN
                          obtain ⟨t0, t1, t2⟩ := blk2z hS6.out
                          go_wp2
                          go_roundw
                          case rel => exact ⟨i + 1, m2, by go_num, by omega, rfl, hf, hb7⟩
                          case measure => simp [intOf]; omega
                        · obtain ⟨m3, e_m3⟩ : ∃ p, m2 ++ (⟨#[46, 46]⟩ : ByteArray) = p := ⟨_, rfl⟩
                          have d_m3 := (cat_to (m := 3332000014) (n := 2) e_m3 z_m2.out (by decide) (by decide)).1
                          have z_m3 : Hid (m3.size ≤ 3332000016) := (cat_to (m := 3332000014) (n := 2) e_m3 z_m2.out (by decide) (by decide)).2
                          replace e_m3 := hid_mk e_m3
                          obtain ⟨m4, e_m4⟩ : ∃ p, m3 ++ itB hi5 = p := ⟨_, rfl⟩
                          have d_m4 := (cat_to (m := 3332000016) (n := 1000001) e_m4 z_m3.out zhi.out (by decide)).1
                          have z_m4 : Hid (m4.size ≤ 3333000017) := (cat_to (m := 3332000016) (n := 1000001) e_m4 z_m3.out zhi.out (by decide)).2
                          replace e_m4 := hid_mk e_m4
                          have hsb : spanB (lo, hi5) = itB lo ++ ((⟨#[46, 46]⟩ : ByteArray) ++ itB hi5) := if_pos (by dsimp only; omega)
                          have hf : Hid (m4 = p6 ++ jnB (⟨#[44]⟩ : ByteArray) ((sps.take (i + 1)).map spanB)) := by
                            rw [Hid, hnxM.out, hsb, ← e_m4.out, ← e_m3.out, ← e_m2.out]
                            apply ba_ext
                            simp
                          clear hsb
                          go_wp2_with fail
                          refine (Itoa_any lo _ s1 (by omega) (ht.out.to q6.out)).mono ?_
                          rintro e w5 ⟨rfl, hbN⟩
                          have hb7 := hid_mk (after (w := wy) hbN hb6.out).1
                          have q7 := hid_mk (after (w := w) hbN q6.out).1
                          have hS6 := hid_mk (hS5.out.keep hbN)
                          clear hbN
                          obtain ⟨t0, t1, t2⟩ := blk2z hS6.out
                          go_wp2_with fail
                          refine (Itoa_any hi5 _ (by omega) s3 (ht.out.to q7.out)).mono ?_
                          rintro e w6 ⟨rfl, hbN⟩
                          have hb8 := hid_mk (after (w := wy) hbN hb7.out).1
                          clear hbN t0 t1 t2
                          go_wp2
                          go_roundw
                          case rel => exact ⟨i + 1, m4, by go_num, by omega, rfl, hf, hb8⟩
                          case measure => simp [intOf]; omega
                    · have hts : sps.take i = sps := List.take_of_length_le (by have := hxl.out; omega)
                      have hf : Hid (M = pre ++ jnB (⟨#[32, 97, 110, 100, 32]⟩ : ByteArray) ((r.take (j + 1)).map relB)) := by rw [Hid, hnxT.out, hM.out, hts]; exact hp6.out
                      clear hts
                      go_wp2
                      go_roundw
                      case rel => exact ⟨j + 1, M, by go_num, by omega, rfl, hf, p4⟩
                      case measure => simp [intOf]; omega
              · cases nt
                · obtain ⟨p6, e_p6⟩ : ∃ p, p3 ++ (⟨#[32, 61, 32]⟩ : ByteArray) = p := ⟨_, rfl⟩
                  have d_p6 := (cat_to (m := 3300000005) (n := 4) e_p6 z_p3.out (by decide) (by decide)).1
                  have z_p6 : Hid (p6.size ≤ 3300000009) := (cat_to (m := 3300000005) (n := 4) e_p6 z_p3.out (by decide) (by decide)).2
                  replace e_p6 := hid_mk e_p6
                  have hp6 : Hid (p6 ++ jnB (⟨#[44]⟩ : ByteArray) (sps.map spanB) = T ++ relB ⟨mod, false, sps⟩) := by
                    have := relB_ref ⟨mod, false, sps⟩ T
                    dsimp only at this
                    rw [if_neg hpos, if_neg (by simp), e_p3.out, e_p6.out] at this
                    exact this
                  go_wp2_with fail
                  obtain ⟨wy, hwy⟩ : ∃ wy, wr.alloc (.cells #[.int .i64 mod, .bool false, .slice Ax nx cx] 37) = wy := ⟨_, rfl⟩
                  rw [hwy] at hbx qx hX hSpx ⊢
                  clear hwy
                  have hby := hbx
                  have qy := qx
                  have hXy := hX
                  have hSpy := hSpx
                  clear hX hSpx hbx qx
                  obtain ⟨y0, y1, y2, y3⟩ := blk3z hXy.out
                  go_loopw [3, 52] (fun mv iv wr => ∃ (i : Nat) (M : ByteArray), iv = .int .i64 i ∧ i ≤ nx ∧ mv = .string M ∧ Hid (M = p6 ++ jnB (⟨#[44]⟩ : ByteArray) ((sps.take i).map spanB)) ∧ Hid (Below wy.heap.size wy wr)) (fun _ iv _ => nx - (intOf iv).toNat)
                  case atStart => exact ⟨0, p6, rfl, Nat.zero_le _, rfl, (app_nil _ _).symm, Below.refl _ _⟩
                  case round =>
                    obtain ⟨i, M, rfl, hi, rfl, hM, hb4⟩ := hrel
                    have q4 := hid_mk (after (w := w) hb4.out qy.out).1
                    have p4 := hid_mk (after (w := wo) hb4.out hby.out).1
                    clear y0 y1 y2 y3
                    obtain ⟨y0, y1, y2, y3⟩ := blk3z (hXy.out.keep hb4.out)
                    by_cases hli : i < nx
                    · obtain ⟨b5, o5, s, heq5, hbl5, hd5, g0, g1⟩ := (hSpy.out.to hb4.out).at_ hli
                      subst heq5
                      obtain ⟨s1, s2, s3⟩ := span_ok (hsps.out s (mem_drop' hd5.out))
                      have hnxM := hid_mk (snoc_to hd5.out hM.out)
                      obtain ⟨lo, hi5⟩ := s
                      dsimp only at *
                      have z_M : Hid (M.size ≤ 3330000009) := by rw [Hid, hM.out, ByteArray.size_append]; have := z_p6.out; have := spans_sz (k := i) hs10.out hsps.out; omega
                      have i0 : (0 : Int) ≤ i := by omega
                      have i1 : (i : Int) < nx := by omega
                      have qx5 : Below wr.heap.size wr (wr.alloc (.cells #[.int .i64 lo, .int .i64 hi5] 45)) := (Below.refl _ _).alloc (Nat.le_refl _) _
                      have hb6 := hid_mk (after (w := wy) qx5 hb4.out).1
                      have q6 := hid_mk (after (w := w) qx5 q4.out).1
                      have hS5 := hid_mk (Blk.new wr 45 #[.int .i64 lo, .int .i64 hi5])
                      clear qx5
                      have zlo : Hid ((itB lo).size ≤ 1000001) := it_len s1 (by omega)
                      have zhi : Hid ((itB hi5).size ≤ 1000001) := it_len (by omega) s3
                      replace hd5 := hid_mk hd5
                      by_cases hi0 : 0 < i
                      · obtain ⟨m1, e_m1⟩ : ∃ p, M ++ (⟨#[44]⟩ : ByteArray) = p := ⟨_, rfl⟩
                        have d_m1 := (cat_to (m := 3330000009) (n := 1) e_m1 z_M.out (by decide) (by decide)).1
                        have z_m1 : Hid (m1.size ≤ 3330000010) := (cat_to (m := 3330000009) (n := 1) e_m1 z_M.out (by decide) (by decide)).2
                        replace e_m1 := hid_mk e_m1
                        have i2 : (0 : Int) < i := by omega
                        replace hnxM : Hid (p6 ++ jnB (⟨#[44]⟩ : ByteArray) ((sps.take (i + 1)).map spanB) = m1 ++ spanB (lo, hi5)) := by rw [Hid, hnxM.out, if_pos hi0, e_m1.out]
                        obtain ⟨m2, e_m2⟩ : ∃ p, m1 ++ itB lo = p := ⟨_, rfl⟩
                        have d_m2 := (cat_to (m := 3330000010) (n := 1000001) e_m2 z_m1.out zlo.out (by decide)).1
                        have z_m2 : Hid (m2.size ≤ 3331000011) := (cat_to (m := 3330000010) (n := 1000001) e_m2 z_m1.out zlo.out (by decide)).2
                        replace e_m2 := hid_mk e_m2
                        by_cases hne : lo = hi5
                        · subst hne
                          have hf : Hid (m2 = p6 ++ jnB (⟨#[44]⟩ : ByteArray) ((sps.take (i + 1)).map spanB)) := by rw [Hid, hnxM.out, show spanB (lo, lo) = itB lo from if_neg (by simp), e_m2.out]
                          go_wp2_with fail
                          refine (Itoa_any lo _ s1 (by omega) (ht.out.to q6.out)).mono ?_
                          rintro e w5 ⟨rfl, hbN⟩
                          have hb7 := hid_mk (after (w := wy) hbN hb6.out).1
                          have hS6 := hid_mk (hS5.out.keep hbN)
                          clear hbN
                          obtain ⟨t0, t1, t2⟩ := blk2z hS6.out
                          go_wp2
                          go_roundw
                          case rel => exact ⟨i + 1, m2, by go_num, by omega, rfl, hf, hb7⟩
                          case measure => simp [intOf]; omega
                        · obtain ⟨m3, e_m3⟩ : ∃ p, m2 ++ (⟨#[46, 46]⟩ : ByteArray) = p := ⟨_, rfl⟩
                          have d_m3 := (cat_to (m := 3331000011) (n := 2) e_m3 z_m2.out (by decide) (by decide)).1
                          have z_m3 : Hid (m3.size ≤ 3331000013) := (cat_to (m := 3331000011) (n := 2) e_m3 z_m2.out (by decide) (by decide)).2
                          replace e_m3 := hid_mk e_m3
                          obtain ⟨m4, e_m4⟩ : ∃ p, m3 ++ itB hi5 = p := ⟨_, rfl⟩
                          have d_m4 := (cat_to (m := 3331000013) (n := 1000001) e_m4 z_m3.out zhi.out (by decide)).1
                          have z_m4 : Hid (m4.size ≤ 3332000014) := (cat_to (m := 3331000013) (n := 1000001) e_m4 z_m3.out zhi.out (by decide)).2
                          replace e_m4 := hid_mk e_m4
                          have hsb : spanB (lo, hi5) = itB lo ++ ((⟨#[46, 46]⟩ : ByteArray) ++ itB hi5) := if_pos (by dsimp only; omega)
                          have hf : Hid (m4 = p6 ++ jnB (⟨#[44]⟩ : ByteArray) ((sps.take (i + 1)).map spanB)) := by
                            rw [Hid, hnxM.out, hsb, ← e_m4.out, ← e_m3.out, ← e_m2.out]
                            apply ba_ext
                            simp
                          clear hsb
                          go_wp2_with fail
                          refine (Itoa_any lo _ s1 (by omega) (ht.out.to q6.out)).mono ?_
                          rintro e w5 ⟨rfl, hbN⟩
                          have hb7 := hid_mk (after (w := wy) hbN hb6.out).1
                          have q7 := hid_mk (after (w := w) hbN q6.out).1
                          have hS6 := hid_mk (hS5.out.keep hbN)
                          clear hbN
                          obtain ⟨t0, t1, t2⟩ := blk2z hS6.out
                          go_wp2_with fail
                          refine (Itoa_any hi5 _ (by omega) s3 (ht.out.to q7.out)).mono ?_
                          rintro e w6 ⟨rfl, hbN⟩
                          have hb8 := hid_mk (after (w := wy) hbN hb7.out).1
                          clear hbN t0 t1 t2
                          go_wp2
                          go_roundw
                          case rel => exact ⟨i + 1, m4, by go_num, by omega, rfl, hf, hb8⟩
                          case measure => simp [intOf]; omega
                      · have i2 : ¬ (0 : Int) < i := by omega
                        replace hnxM : Hid (p6 ++ jnB (⟨#[44]⟩ : ByteArray) ((sps.take (i + 1)).map spanB) = M ++ spanB (lo, hi5)) := by rw [Hid, hnxM.out, if_neg hi0]
                        obtain ⟨m2, e_m2⟩ : ∃ p, M ++ itB lo = p := ⟨_, rfl⟩
                        have d_m2 := (cat_to (m := 3330000009) (n := 1000001) e_m2 z_M.out zlo.out (by decide)).1
                        have z_m2 : Hid (m2.size ≤ 3331000010) := (cat_to (m := 3330000009) (n := 1000001) e_m2 z_M.out zlo.out (by decide)).2
                        replace e_m2 := hid_mk e_m2
                        by_cases hne : lo = hi5
                        · subst hne
                          have hf : Hid (m2 = p6 ++ jnB (⟨#[44]⟩ : ByteArray) ((sps.take (i + 1)).map spanB)) := by rw [Hid, hnxM.out, show spanB (lo, lo) = itB lo from if_neg (by simp), e_m2.out]
                          go_wp2_with fail
                          refine (Itoa_any lo _ s1 (by omega) (ht.out.to q6.out)).mono ?_
                          rintro e w5 ⟨rfl, hbN⟩
                          have hb7 := hid_mk (after (w := wy) hbN hb6.out).1
                          have hS6 := hid_mk (hS5.out.keep hbN)
                          clear hbN
                          obtain ⟨t0, t1, t2⟩ := blk2z hS6.out
                          go_wp2
                          go_roundw
                          case rel => exact ⟨i + 1, m2, by go_num, by omega, rfl, hf, hb7⟩
                          case measure => simp [intOf]; omega
                        · obtain ⟨m3, e_m3⟩ : ∃ p, m2 ++ (⟨#[46, 46]⟩ : ByteArray) = p := ⟨_, rfl⟩
                          have d_m3 := (cat_to (m := 3331000010) (n := 2) e_m3 z_m2.out (by decide) (by decide)).1
                          have z_m3 : Hid (m3.size ≤ 3331000012) := (cat_to (m := 3331000010) (n := 2) e_m3 z_m2.out (by decide) (by decide)).2
                          replace e_m3 := hid_mk e_m3
                          obtain ⟨m4, e_m4⟩ : ∃ p, m3 ++ itB hi5 = p := ⟨_, rfl⟩
                          have d_m4 := (cat_to (m := 3331000012) (n := 1000001) e_m4 z_m3.out zhi.out (by decide)).1
                          have z_m4 : Hid (m4.size ≤ 3332000013) := (cat_to (m := 3331000012) (n := 1000001) e_m4 z_m3.out zhi.out (by decide)).2
                          replace e_m4 := hid_mk e_m4
                          have hsb : spanB (lo, hi5) = itB lo ++ ((⟨#[46, 46]⟩ : ByteArray) ++ itB hi5) := if_pos (by dsimp only; omega)
                          have hf : Hid (m4 = p6 ++ jnB (⟨#[44]⟩ : ByteArray) ((sps.take (i + 1)).map spanB)) := by
                            rw [Hid, hnxM.out, hsb, ← e_m4.out, ← e_m3.out, ← e_m2.out]
                            apply ba_ext
                            simp
                          clear hsb
                          go_wp2_with fail
                          refine (Itoa_any lo _ s1 (by omega) (ht.out.to q6.out)).mono ?_
                          rintro e w5 ⟨rfl, hbN⟩
                          have hb7 := hid_mk (after (w := wy) hbN hb6.out).1
                          have q7 := hid_mk (after (w := w) hbN q6.out).1
                          have hS6 := hid_mk (hS5.out.keep hbN)
                          clear hbN
                          obtain ⟨t0, t1, t2⟩ := blk2z hS6.out
                          go_wp2_with fail
                          refine (Itoa_any hi5 _ (by omega) s3 (ht.out.to q7.out)).mono ?_
                          rintro e w6 ⟨rfl, hbN⟩
                          have hb8 := hid_mk (after (w := wy) hbN hb7.out).1
                          clear hbN t0 t1 t2
                          go_wp2
                          go_roundw
                          case rel => exact ⟨i + 1, m4, by go_num, by omega, rfl, hf, hb8⟩
                          case measure => simp [intOf]; omega
                    · have hts : sps.take i = sps := List.take_of_length_le (by have := hxl.out; omega)
                      have hf : Hid (M = pre ++ jnB (⟨#[32, 97, 110, 100, 32]⟩ : ByteArray) ((r.take (j + 1)).map relB)) := by rw [Hid, hnxT.out, hM.out, hts]; exact hp6.out
                      clear hts
                      go_wp2
                      go_roundw
                      case rel => exact ⟨j + 1, M, by go_num, by omega, rfl, hf, p4⟩
                      case measure => simp [intOf]; omega
                · obtain ⟨p6, e_p6⟩ : ∃ p, p3 ++ (⟨#[32, 33, 61, 32]⟩ : ByteArray) = p := ⟨_, rfl⟩
                  have d_p6 := (cat_to (m := 3300000005) (n := 4) e_p6 z_p3.out (by decide) (by decide)).1
                  have z_p6 : Hid (p6.size ≤ 3300000009) := (cat_to (m := 3300000005) (n := 4) e_p6 z_p3.out (by decide) (by decide)).2
                  replace e_p6 := hid_mk e_p6
                  have hp6 : Hid (p6 ++ jnB (⟨#[44]⟩ : ByteArray) (sps.map spanB) = T ++ relB ⟨mod, true, sps⟩) := by
                    have := relB_ref ⟨mod, true, sps⟩ T
                    dsimp only at this
                    rw [if_neg hpos, if_pos rfl, e_p3.out, e_p6.out] at this
                    exact this
                  go_wp2_with fail
                  obtain ⟨wy, hwy⟩ : ∃ wy, wr.alloc (.cells #[.int .i64 mod, .bool true, .slice Ax nx cx] 37) = wy := ⟨_, rfl⟩
                  rw [hwy] at hbx qx hX hSpx ⊢
                  clear hwy
                  have hby := hbx
                  have qy := qx
                  have hXy := hX
                  have hSpy := hSpx
                  clear hX hSpx hbx qx
                  obtain ⟨y0, y1, y2, y3⟩ := blk3z hXy.out
                  go_loopw [3, 52] (fun mv iv wr => ∃ (i : Nat) (M : ByteArray), iv = .int .i64 i ∧ i ≤ nx ∧ mv = .string M ∧ Hid (M = p6 ++ jnB (⟨#[44]⟩ : ByteArray) ((sps.take i).map spanB)) ∧ Hid (Below wy.heap.size wy wr)) (fun _ iv _ => nx - (intOf iv).toNat)
                  case atStart => exact ⟨0, p6, rfl, Nat.zero_le _, rfl, (app_nil _ _).symm, Below.refl _ _⟩
                  case round =>
                    obtain ⟨i, M, rfl, hi, rfl, hM, hb4⟩ := hrel
                    have q4 := hid_mk (after (w := w) hb4.out qy.out).1
                    have p4 := hid_mk (after (w := wo) hb4.out hby.out).1
                    clear y0 y1 y2 y3
                    obtain ⟨y0, y1, y2, y3⟩ := blk3z (hXy.out.keep hb4.out)
                    by_cases hli : i < nx
                    · obtain ⟨b5, o5, s, heq5, hbl5, hd5, g0, g1⟩ := (hSpy.out.to hb4.out).at_ hli
                      subst heq5
                      obtain ⟨s1, s2, s3⟩ := span_ok (hsps.out s (mem_drop' hd5.out))
                      have hnxM := hid_mk (snoc_to hd5.out hM.out)
                      obtain ⟨lo, hi5⟩ := s
                      dsimp only at *
                      have z_M : Hid (M.size ≤ 3330000009) := by rw [Hid, hM.out, ByteArray.size_append]; have := z_p6.out; have := spans_sz (k := i) hs10.out hsps.out; omega
                      have i0 : (0 : Int) ≤ i := by omega
                      have i1 : (i : Int) < nx := by omega
                      have qx5 : Below wr.heap.size wr (wr.alloc (.cells #[.int .i64 lo, .int .i64 hi5] 45)) := (Below.refl _ _).alloc (Nat.le_refl _) _
                      have hb6 := hid_mk (after (w := wy) qx5 hb4.out).1
                      have q6 := hid_mk (after (w := w) qx5 q4.out).1
                      have hS5 := hid_mk (Blk.new wr 45 #[.int .i64 lo, .int .i64 hi5])
                      clear qx5
                      have zlo : Hid ((itB lo).size ≤ 1000001) := it_len s1 (by omega)
                      have zhi : Hid ((itB hi5).size ≤ 1000001) := it_len (by omega) s3
                      replace hd5 := hid_mk hd5
                      by_cases hi0 : 0 < i
                      · obtain ⟨m1, e_m1⟩ : ∃ p, M ++ (⟨#[44]⟩ : ByteArray) = p := ⟨_, rfl⟩
                        have d_m1 := (cat_to (m := 3330000009) (n := 1) e_m1 z_M.out (by decide) (by decide)).1
                        have z_m1 : Hid (m1.size ≤ 3330000010) := (cat_to (m := 3330000009) (n := 1) e_m1 z_M.out (by decide) (by decide)).2
                        replace e_m1 := hid_mk e_m1
                        have i2 : (0 : Int) < i := by omega
                        replace hnxM : Hid (p6 ++ jnB (⟨#[44]⟩ : ByteArray) ((sps.take (i + 1)).map spanB) = m1 ++ spanB (lo, hi5)) := by rw [Hid, hnxM.out, if_pos hi0, e_m1.out]
                        obtain ⟨m2, e_m2⟩ : ∃ p, m1 ++ itB lo = p := ⟨_, rfl⟩
                        have d_m2 := (cat_to (m := 3330000010) (n := 1000001) e_m2 z_m1.out zlo.out (by decide)).1
                        have z_m2 : Hid (m2.size ≤ 3331000011) := (cat_to (m := 3330000010) (n := 1000001) e_m2 z_m1.out zlo.out (by decide)).2
                        replace e_m2 := hid_mk e_m2
                        by_cases hne : lo = hi5
                        · subst hne
                          have hf : Hid (m2 = p6 ++ jnB (⟨#[44]⟩ : ByteArray) ((sps.take (i + 1)).map spanB)) := by rw [Hid, hnxM.out, show spanB (lo, lo) = itB lo from if_neg (by simp), e_m2.out]
                          go_wp2_with fail
                          refine (Itoa_any lo _ s1 (by omega) (ht.out.to q6.out)).mono ?_
                          rintro e w5 ⟨rfl, hbN⟩
                          have hb7 := hid_mk (after (w := wy) hbN hb6.out).1
                          have hS6 := hid_mk (hS5.out.keep hbN)
                          clear hbN
                          obtain ⟨t0, t1, t2⟩ := blk2z hS6.out
                          go_wp2
                          go_roundw
                          case rel => exact ⟨i + 1, m2, by go_num, by omega, rfl, hf, hb7⟩
                          case measure => simp [intOf]; omega
                        · obtain ⟨m3, e_m3⟩ : ∃ p, m2 ++ (⟨#[46, 46]⟩ : ByteArray) = p := ⟨_, rfl⟩
                          have d_m3 := (cat_to (m := 3331000011) (n := 2) e_m3 z_m2.out (by decide) (by decide)).1
                          have z_m3 : Hid (m3.size ≤ 3331000013) := (cat_to (m := 3331000011) (n := 2) e_m3 z_m2.out (by decide) (by decide)).2
                          replace e_m3 := hid_mk e_m3
                          obtain ⟨m4, e_m4⟩ : ∃ p, m3 ++ itB hi5 = p := ⟨_, rfl⟩
                          have d_m4 := (cat_to (m := 3331000013) (n := 1000001) e_m4 z_m3.out zhi.out (by decide)).1
                          have z_m4 : Hid (m4.size ≤ 3332000014) := (cat_to (m := 3331000013) (n := 1000001) e_m4 z_m3.out zhi.out (by decide)).2
                          replace e_m4 := hid_mk e_m4
                          have hsb : spanB (lo, hi5) = itB lo ++ ((⟨#[46, 46]⟩ : ByteArray) ++ itB hi5) := if_pos (by dsimp only; omega)
                          have hf : Hid (m4 = p6 ++ jnB (⟨#[44]⟩ : ByteArray) ((sps.take (i + 1)).map spanB)) := by
                            rw [Hid, hnxM.out, hsb, ← e_m4.out, ← e_m3.out, ← e_m2.out]
                            apply ba_ext
                            simp
                          clear hsb
                          go_wp2_with fail
                          refine (Itoa_any lo _ s1 (by omega) (ht.out.to q6.out)).mono ?_
                          rintro e w5 ⟨rfl, hbN⟩
                          have hb7 := hid_mk (after (w := wy) hbN hb6.out).1
                          have q7 := hid_mk (after (w := w) hbN q6.out).1
                          have hS6 := hid_mk (hS5.out.keep hbN)
                          clear hbN
                          obtain ⟨t0, t1, t2⟩ := blk2z hS6.out
                          go_wp2_with fail
                          refine (Itoa_any hi5 _ (by omega) s3 (ht.out.to q7.out)).mono ?_
                          rintro e w6 ⟨rfl, hbN⟩
                          have hb8 := hid_mk (after (w := wy) hbN hb7.out).1
                          clear hbN t0 t1 t2
                          go_wp2
                          go_roundw
                          case rel => exact ⟨i + 1, m4, by go_num, by omega, rfl, hf, hb8⟩
                          case measure => simp [intOf]; omega
                      · have i2 : ¬ (0 : Int) < i := by omega
                        replace hnxM : Hid (p6 ++ jnB (⟨#[44]⟩ : ByteArray) ((sps.take (i + 1)).map spanB) = M ++ spanB (lo, hi5)) := by rw [Hid, hnxM.out, if_neg hi0]
                        obtain ⟨m2, e_m2⟩ : ∃ p, M ++ itB lo = p := ⟨_, rfl⟩
                        have d_m2 := (cat_to (m := 3330000009) (n := 1000001) e_m2 z_M.out zlo.out (by decide)).1
                        have z_m2 : Hid (m2.size ≤ 3331000010) := (cat_to (m := 3330000009) (n := 1000001) e_m2 z_M.out zlo.out (by decide)).2
                        replace e_m2 := hid_mk e_m2
                        by_cases hne : lo = hi5
                        · subst hne
                          have hf : Hid (m2 = p6 ++ jnB (⟨#[44]⟩ : ByteArray) ((sps.take (i + 1)).map spanB)) := by rw [Hid, hnxM.out, show spanB (lo, lo) = itB lo from if_neg (by simp), e_m2.out]
                          go_wp2_with fail
                          refine (Itoa_any lo _ s1 (by omega) (ht.out.to q6.out)).mono ?_
                          rintro e w5 ⟨rfl, hbN⟩
                          have hb7 := hid_mk (after (w := wy) hbN hb6.out).1
                          have hS6 := hid_mk (hS5.out.keep hbN)
                          clear hbN
                          obtain ⟨t0, t1, t2⟩ := blk2z hS6.out
                          go_wp2
                          go_roundw
                          case rel => exact ⟨i + 1, m2, by go_num, by omega, rfl, hf, hb7⟩
                          case measure => simp [intOf]; omega
                        · obtain ⟨m3, e_m3⟩ : ∃ p, m2 ++ (⟨#[46, 46]⟩ : ByteArray) = p := ⟨_, rfl⟩
                          have d_m3 := (cat_to (m := 3331000010) (n := 2) e_m3 z_m2.out (by decide) (by decide)).1
                          have z_m3 : Hid (m3.size ≤ 3331000012) := (cat_to (m := 3331000010) (n := 2) e_m3 z_m2.out (by decide) (by decide)).2
                          replace e_m3 := hid_mk e_m3
                          obtain ⟨m4, e_m4⟩ : ∃ p, m3 ++ itB hi5 = p := ⟨_, rfl⟩
                          have d_m4 := (cat_to (m := 3331000012) (n := 1000001) e_m4 z_m3.out zhi.out (by decide)).1
                          have z_m4 : Hid (m4.size ≤ 3332000013) := (cat_to (m := 3331000012) (n := 1000001) e_m4 z_m3.out zhi.out (by decide)).2
                          replace e_m4 := hid_mk e_m4
                          have hsb : spanB (lo, hi5) = itB lo ++ ((⟨#[46, 46]⟩ : ByteArray) ++ itB hi5) := if_pos (by dsimp only; omega)
                          have hf : Hid (m4 = p6 ++ jnB (⟨#[44]⟩ : ByteArray) ((sps.take (i + 1)).map spanB)) := by
                            rw [Hid, hnxM.out, hsb, ← e_m4.out, ← e_m3.out, ← e_m2.out]
                            apply ba_ext
                            simp
                          clear hsb
                          go_wp2_with fail
                          refine (Itoa_any lo _ s1 (by omega) (ht.out.to q6.out)).mono ?_
                          rintro e w5 ⟨rfl, hbN⟩
                          have hb7 := hid_mk (after (w := wy) hbN hb6.out).1
                          have q7 := hid_mk (after (w := w) hbN q6.out).1
                          have hS6 := hid_mk (hS5.out.keep hbN)
                          clear hbN
                          obtain ⟨t0, t1, t2⟩ := blk2z hS6.out
                          go_wp2_with fail
                          refine (Itoa_any hi5 _ (by omega) s3 (ht.out.to q7.out)).mono ?_
                          rintro e w6 ⟨rfl, hbN⟩
                          have hb8 := hid_mk (after (w := wy) hbN hb7.out).1
                          clear hbN t0 t1 t2
                          go_wp2
                          go_roundw
                          case rel => exact ⟨i + 1, m4, by go_num, by omega, rfl, hf, hb8⟩
                          case measure => simp [intOf]; omega
                    · have hts : sps.take i = sps := List.take_of_length_le (by have := hxl.out; omega)
                      have hf : Hid (M = pre ++ jnB (⟨#[32, 97, 110, 100, 32]⟩ : ByteArray) ((r.take (j + 1)).map relB)) := by rw [Hid, hnxT.out, hM.out, hts]; exact hp6.out
                      clear hts
                      go_wp2
                      go_roundw
                      case rel => exact ⟨j + 1, M, by go_num, by omega, rfl, hf, p4⟩
                      case measure => simp [intOf]; omega
          · have hts : r.take j = r := List.take_of_length_le (by have := hnr.out; omega)
            have hf : Hid (T = jnB (⟨#[32, 111, 114, 32]⟩ : ByteArray) ((l.take (k + 1)).map rowB)) := by rw [Hid, hnx.out, hT.out, hts]; rfl
            clear hts
            go_wp2
            go_roundw
            case rel => exact ⟨k + 1, T, by go_num, by omega, rfl, hf, q2⟩
            case measure => simp [intOf]; omega
      · have k2 : ¬ (0 : Int) < k := by omega
        have z_S := zS
        replace hnx : Hid (jnB (⟨#[32, 111, 114, 32]⟩ : ByteArray) ((l.take (k + 1)).map rowB) = S ++ rowB r) := by rw [Hid, hnx.out, if_neg hk0]
        go_wp2_with fail
        obtain ⟨wo, hwo⟩ : ∃ wo : World, wo = wr := ⟨_, rfl⟩
        subst hwo
        go_loopw [3, 23] (fun tv jv wr => ∃ (j : Nat) (T : ByteArray), jv = .int .i64 j ∧ j ≤ nr ∧ tv = .string T ∧ Hid (T = S ++ jnB (⟨#[32, 97, 110, 100, 32]⟩ : ByteArray) ((r.take j).map relB)) ∧ Hid (Below wo.heap.size wo wr)) (fun _ jv _ => nr - (intOf jv).toNat)
        case atStart => exact ⟨0, S, rfl, Nat.zero_le _, rfl, (app_nil _ _).symm, Below.refl _ _⟩
        case round =>
          obtain ⟨j, T, rfl, hj, rfl, hT, hb2⟩ := hrel
          have q2 := hid_mk (after (w := w) hb2.out hb.out).1
          by_cases hlj : j < nr
          · obtain ⟨b2, o2, x, vx, heq2, hbl2, hd2, d0, d1, d2, hSp, _⟩ := (hRl.out.to hb2.out).at_ hlj
            subst heq2
            obtain ⟨Ax, nx, cx⟩ := vx
            unfold slV at d2
            have hxo := hrok.out x (mem_drop' hd2.out)
            have hnxT := hid_mk (snoc_to hd2.out hT.out)
            have z_T : Hid (T.size ≤ 3300000000) := by rw [Hid, hT.out, ByteArray.size_append]; have := z_S.out; have := rels_sz (k := j) hr10'.out hrok.out; omega
            have hx10 := rel_lens hxo
            obtain ⟨hmod, hsps⟩ := rel_ok hxo
            obtain ⟨mod, nt, sps⟩ := x
            dsimp only at *
            have hxl := hid_mk hSp.len
            have hs10 : Hid (sps.length ≤ 10) := hx10.2
            have hnx10 : nx ≤ 10 := by have := hxl.out; omega
            replace hsps := hid_mk hsps
            have j0 : (0 : Int) ≤ j := by omega
            have j1 : (j : Int) < nr := by omega
            have qxx : Below wr.heap.size wr (wr.alloc (.cells #[.int .i64 mod, .bool nt, .slice Ax nx cx] 37)) := (Below.refl _ _).alloc (Nat.le_refl _) _
            have hbx := hid_mk (after (w := wo) qxx hb2.out).1
            have qx := hid_mk (after (w := w) qxx q2.out).1
            have hX := hid_mk (Blk.new wr 37 #[.int .i64 mod, .bool nt, .slice Ax nx cx])
            have hSpx := hid_mk (hSp.to qxx)
            replace hd2 := hid_mk hd2
            clear qxx hSp hxo hx10
            by_cases hj0 : 0 < j
            · obtain ⟨p2, e_p2⟩ : ∃ p, T ++ (⟨#[32, 97, 110, 100, 32]⟩ : ByteArray) = p := ⟨_, rfl⟩
              have d_p2 := (cat_to (m := 3300000000) (n := 5) e_p2 z_T.out (by decide) (by decide)).1
              have z_p2 : Hid (p2.size ≤ 3300000005) := (cat_to (m := 3300000000) (n := 5) e_p2 z_T.out (by decide) (by decide)).2
              replace e_p2 := hid_mk e_p2
              have j2 : (0 : Int) < j := by omega
              replace hnxT : Hid (S ++ jnB (⟨#[32, 97, 110, 100, 32]⟩ : ByteArray) ((r.take (j + 1)).map relB) = p2 ++ relB ⟨mod, nt, sps⟩) := by rw [Hid, hnxT.out, if_pos hj0, e_p2.out]
              obtain ⟨p3, e_p3⟩ : ∃ p, p2 ++ (⟨#[105]⟩ : ByteArray) = p := ⟨_, rfl⟩
              have d_p3 := (cat_to (m := 3300000005) (n := 1) e_p3 z_p2.out (by decide) (by decide)).1
              have z_p3 : Hid (p3.size ≤ 3300000006) := (cat_to (m := 3300000005) (n := 1) e_p3 z_p2.out (by decide) (by decide)).2
              replace e_p3 := hid_mk e_p3
              by_cases hpos : 0 < mod
              · have zmod : Hid ((itB mod).size ≤ 1000001) := it_len (by omega) (by omega)
                obtain ⟨p4, e_p4⟩ : ∃ p, p3 ++ (⟨#[32, 37, 32]⟩ : ByteArray) = p := ⟨_, rfl⟩
                have d_p4 := (cat_to (m := 3300000006) (n := 3) e_p4 z_p3.out (by decide) (by decide)).1
                have z_p4 : Hid (p4.size ≤ 3300000009) := (cat_to (m := 3300000006) (n := 3) e_p4 z_p3.out (by decide) (by decide)).2
                replace e_p4 := hid_mk e_p4
                obtain ⟨p5, e_p5⟩ : ∃ p, p4 ++ itB mod = p := ⟨_, rfl⟩
                have d_p5 := (cat_to (m := 3300000009) (n := 1000001) e_p5 z_p4.out zmod.out (by decide)).1
                have z_p5 : Hid (p5.size ≤ 3301000010) := (cat_to (m := 3300000009) (n := 1000001) e_p5 z_p4.out zmod.out (by decide)).2
                replace e_p5 := hid_mk e_p5
                cases nt
                · obtain ⟨p6, e_p6⟩ : ∃ p, p5 ++ (⟨#[32, 61, 32]⟩ : ByteArray) = p := ⟨_, rfl⟩
                  have d_p6 := (cat_to (m := 3301000010) (n := 4) e_p6 z_p5.out (by decide) (by decide)).1
                  have z_p6 : Hid (p6.size ≤ 3301000014) := (cat_to (m := 3301000010) (n := 4) e_p6 z_p5.out (by decide) (by decide)).2
                  replace e_p6 := hid_mk e_p6
                  have hp6 : Hid (p6 ++ jnB (⟨#[44]⟩ : ByteArray) (sps.map spanB) = p2 ++ relB ⟨mod, false, sps⟩) := by
                    have := relB_ref ⟨mod, false, sps⟩ p2
                    dsimp only at this
                    rw [if_pos hpos, if_neg (by simp), e_p3.out, e_p4.out, e_p5.out, e_p6.out] at this
                    exact this
                  go_wp2_with fail
                  refine (Itoa_any mod _ (by omega) (by omega) (ht.out.to qx.out)).mono ?_
                  rintro e wy ⟨rfl, hbN⟩
                  have hby := hid_mk (after (w := wo) hbN hbx.out).1
                  have qy := hid_mk (after (w := w) hbN qx.out).1
                  have hXy := hid_mk (hX.out.keep hbN)
                  have hSpy := hid_mk (hSpx.out.to hbN)
                  clear hbN hX hSpx hbx qx
                  obtain ⟨y0, y1, y2, y3⟩ := blk3z hXy.out
                  go_wp2_with fail
                  go_loopw [3, 52] (fun mv iv wr => ∃ (i : Nat) (M : ByteArray), iv = .int .i64 i ∧ i ≤ nx ∧ mv = .string M ∧ Hid (M = p6 ++ jnB (⟨#[44]⟩ : ByteArray) ((sps.take i).map spanB)) ∧ Hid (Below wy.heap.size wy wr)) (fun _ iv _ => nx - (intOf iv).toNat)
                  case atStart => exact ⟨0, p6, rfl, Nat.zero_le _, rfl, (app_nil _ _).symm, Below.refl _ _⟩
                  case round =>
                    obtain ⟨i, M, rfl, hi, rfl, hM, hb4⟩ := hrel
                    have q4 := hid_mk (after (w := w) hb4.out qy.out).1
                    have p4 := hid_mk (after (w := wo) hb4.out hby.out).1
                    clear y0 y1 y2 y3
                    obtain ⟨y0, y1, y2, y3⟩ := blk3z (hXy.out.keep hb4.out)
                    by_cases hli : i < nx
                    · obtain ⟨b5, o5, s, heq5, hbl5, hd5, g0, g1⟩ := (hSpy.out.to hb4.out).at_ hli
                      subst heq5
                      obtain ⟨s1, s2, s3⟩ := span_ok (hsps.out s (mem_drop' hd5.out))
                      have hnxM := hid_mk (snoc_to hd5.out hM.out)
                      obtain ⟨lo, hi5⟩ := s
                      dsimp only at *
                      have z_M : Hid (M.size ≤ 3331000014) := by rw [Hid, hM.out, ByteArray.size_append]; have := z_p6.out; have := spans_sz (k := i) hs10.out hsps.out; omega
                      have i0 : (0 : Int) ≤ i := by omega
                      have i1 : (i : Int) < nx := by omega
                      have qx5 : Below wr.heap.size wr (wr.alloc (.cells #[.int .i64 lo, .int .i64 hi5] 45)) := (Below.refl _ _).alloc (Nat.le_refl _) _
                      have hb6 := hid_mk (after (w := wy) qx5 hb4.out).1
                      have q6 := hid_mk (after (w := w) qx5 q4.out).1
                      have hS5 := hid_mk (Blk.new wr 45 #[.int .i64 lo, .int .i64 hi5])
                      clear qx5
                      have zlo : Hid ((itB lo).size ≤ 1000001) := it_len s1 (by omega)
                      have zhi : Hid ((itB hi5).size ≤ 1000001) := it_len (by omega) s3
                      replace hd5 := hid_mk hd5
                      by_cases hi0 : 0 < i
                      · obtain ⟨m1, e_m1⟩ : ∃ p, M ++ (⟨#[44]⟩ : ByteArray) = p := ⟨_, rfl⟩
                        have d_m1 := (cat_to (m := 3331000014) (n := 1) e_m1 z_M.out (by decide) (by decide)).1
                        have z_m1 : Hid (m1.size ≤ 3331000015) := (cat_to (m := 3331000014) (n := 1) e_m1 z_M.out (by decide) (by decide)).2
                        replace e_m1 := hid_mk e_m1
                        have i2 : (0 : Int) < i := by omega
                        replace hnxM : Hid (p6 ++ jnB (⟨#[44]⟩ : ByteArray) ((sps.take (i + 1)).map spanB) = m1 ++ spanB (lo, hi5)) := by rw [Hid, hnxM.out, if_pos hi0, e_m1.out]
                        obtain ⟨m2, e_m2⟩ : ∃ p, m1 ++ itB lo = p := ⟨_, rfl⟩
                        have d_m2 := (cat_to (m := 3331000015) (n := 1000001) e_m2 z_m1.out zlo.out (by decide)).1
                        have z_m2 : Hid (m2.size ≤ 3332000016) := (cat_to (m := 3331000015) (n := 1000001) e_m2 z_m1.out zlo.out (by decide)).2
                        replace e_m2 := hid_mk e_m2
                        by_cases hne : lo = hi5
                        · subst hne
                          have hf : Hid (m2 = p6 ++ jnB (⟨#[44]⟩ : ByteArray) ((sps.take (i + 1)).map spanB)) := by rw [Hid, hnxM.out, show spanB (lo, lo) = itB lo from if_neg (by simp), e_m2.out]
                          go_wp2_with fail
                          refine (Itoa_any lo _ s1 (by omega) (ht.out.to q6.out)).mono ?_
                          rintro e w5 ⟨rfl, hbN⟩
                          have hb7 := hid_mk (after (w := wy) hbN hb6.out).1
                          have hS6 := hid_mk (hS5.out.keep hbN)
                          clear hbN
                          obtain ⟨t0, t1, t2⟩ := blk2z hS6.out
                          go_wp2
                          go_roundw
                          case rel => exact ⟨i + 1, m2, by go_num, by omega, rfl, hf, hb7⟩
                          case measure => simp [intOf]; omega
                        · obtain ⟨m3, e_m3⟩ : ∃ p, m2 ++ (⟨#[46, 46]⟩ : ByteArray) = p := ⟨_, rfl⟩
                          have d_m3 := (cat_to (m := 3332000016) (n := 2) e_m3 z_m2.out (by decide) (by decide)).1
                          have z_m3 : Hid (m3.size ≤ 3332000018) := (cat_to (m := 3332000016) (n := 2) e_m3 z_m2.out (by decide) (by decide)).2
                          replace e_m3 := hid_mk e_m3
                          obtain ⟨m4, e_m4⟩ : ∃ p, m3 ++ itB hi5 = p := ⟨_, rfl⟩
                          have d_m4 := (cat_to (m := 3332000018) (n := 1000001) e_m4 z_m3.out zhi.out (by decide)).1
                          have z_m4 : Hid (m4.size ≤ 3333000019) := (cat_to (m := 3332000018) (n := 1000001) e_m4 z_m3.out zhi.out (by decide)).2
                          replace e_m4 := hid_mk e_m4
                          have hsb : spanB (lo, hi5) = itB lo ++ ((⟨#[46, 46]⟩ : ByteArray) ++ itB hi5) := if_pos (by dsimp only; omega)
                          have hf : Hid (m4 = p6 ++ jnB (⟨#[44]⟩ : ByteArray) ((sps.take (i + 1)).map spanB)) := by
                            rw [Hid, hnxM.out, hsb, ← e_m4.out, ← e_m3.out, ← e_m2.out]
                            apply ba_ext
                            simp
                          clear hsb
                          go_wp2_with fail
                          refine (Itoa_any lo _ s1 (by omega) (ht.out.to q6.out)).mono ?_
                          rintro e w5 ⟨rfl, hbN⟩
                          have hb7 := hid_mk (after (w := wy) hbN hb6.out).1
                          have q7 := hid_mk (after (w := w) hbN q6.out).1
                          have hS6 := hid_mk (hS5.out.keep hbN)
                          clear hbN
                          obtain ⟨t0, t1, t2⟩ := blk2z hS6.out
                          go_wp2_with fail
                          refine (Itoa_any hi5 _ (by omega) s3 (ht.out.to q7.out)).mono ?_
                          rintro e w6 ⟨rfl, hbN⟩
                          have hb8 := hid_mk (after (w := wy) hbN hb7.out).1
                          clear hbN t0 t1 t2
                          go_wp2
                          go_roundw
                          case rel => exact ⟨i + 1, m4, by go_num, by omega, rfl, hf, hb8⟩
                          case measure => simp [intOf]; omega
                      · have i2 : ¬ (0 : Int) < i := by omega
                        replace hnxM : Hid (p6 ++ jnB (⟨#[44]⟩ : ByteArray) ((sps.take (i + 1)).map spanB) = M ++ spanB (lo, hi5)) := by rw [Hid, hnxM.out, if_neg hi0]
                        obtain ⟨m2, e_m2⟩ : ∃ p, M ++ itB lo = p := ⟨_, rfl⟩
                        have d_m2 := (cat_to (m := 3331000014) (n := 1000001) e_m2 z_M.out zlo.out (by decide)).1
                        have z_m2 : Hid (m2.size ≤ 3332000015) := (cat_to (m := 3331000014) (n := 1000001) e_m2 z_M.out zlo.out (by decide)).2
                        replace e_m2 := hid_mk e_m2
                        by_cases hne : lo = hi5
                        · subst hne
                          have hf : Hid (m2 = p6 ++ jnB (⟨#[44]⟩ : ByteArray) ((sps.take (i + 1)).map spanB)) := by rw [Hid, hnxM.out, show spanB (lo, lo) = itB lo from if_neg (by simp), e_m2.out]
                          go_wp2_with fail
                          refine (Itoa_any lo _ s1 (by omega) (ht.out.to q6.out)).mono ?_
                          rintro e w5 ⟨rfl, hbN⟩
                          have hb7 := hid_mk (after (w := wy) hbN hb6.out).1
                          have hS6 := hid_mk (hS5.out.keep hbN)
                          clear hbN
                          obtain ⟨t0, t1, t2⟩ := blk2z hS6.out
                          go_wp2
                          go_roundw
                          case rel => exact ⟨i + 1, m2, by go_num, by omega, rfl, hf, hb7⟩
                          case measure => simp [intOf]; omega
                        · obtain ⟨m3, e_m3⟩ : ∃ p, m2 ++ (⟨#[46, 46]⟩ : ByteArray) = p := ⟨_, rfl⟩
                          have d_m3 := (cat_to (m := 3332000015) (n := 2) e_m3 z_m2.out (by decide) (by decide)).1
                          have z_m3 : Hid (m3.size ≤ 3332000017) := (cat_to (m := 3332000015) (n := 2) e_m3 z_m2.out (by decide) (by decide)).2
                          replace e_m3 := hid_mk e_m3
                          obtain ⟨m4, e_m4⟩ : ∃ p, m3 ++ itB hi5 = p := ⟨_, rfl⟩
                          have d_m4 := (cat_to (m := 3332000017) (n := 1000001) e_m4 z_m3.out zhi.out (by decide)).1
                          have z_m4 : Hid (m4.size ≤ 3333000018) := (cat_to (m := 3332000017) (n := 1000001) e_m4 z_m3.out zhi.out (by decide)).2
                          replace e_m4 := hid_mk e_m4
                          have hsb : spanB (lo, hi5) = itB lo ++ ((⟨#[46, 46]⟩ : ByteArray) ++ itB hi5) := if_pos (by dsimp only; omega)
                          have hf : Hid (m4 = p6 ++ jnB (⟨#[44]⟩ : ByteArray) ((sps.take (i + 1)).map spanB)) := by
                            rw [Hid, hnxM.out, hsb, ← e_m4.out, ← e_m3.out, ← e_m2.out]
                            apply ba_ext
                            simp
                          clear hsb
                          go_wp2_with fail
                          refine (Itoa_any lo _ s1 (by omega) (ht.out.to q6.out)).mono ?_
                          rintro e w5 ⟨rfl, hbN⟩
                          have hb7 := hid_mk (after (w := wy) hbN hb6.out).1
                          have q7 := hid_mk (after (w := w) hbN q6.out).1
                          have hS6 := hid_mk (hS5.out.keep hbN)
                          clear hbN
                          obtain ⟨t0, t1, t2⟩ := blk2z hS6.out
                          go_wp2_with fail
                          refine (Itoa_any hi5 _ (by omega) s3 (ht.out.to q7.out)).mono ?_
                          rintro e w6 ⟨rfl, hbN⟩
                          have hb8 := hid_mk (after (w := wy) hbN hb7.out).1
                          clear hbN t0 t1 t2
                          go_wp2
                          go_roundw
                          case rel => exact ⟨i + 1, m4, by go_num, by omega, rfl, hf, hb8⟩
                          case measure => simp [intOf]; omega
                    · have hts : sps.take i = sps := List.take_of_length_le (by have := hxl.out; omega)
                      have hf : Hid (M = S ++ jnB (⟨#[32, 97, 110, 100, 32]⟩ : ByteArray) ((r.take (j + 1)).map relB)) := by rw [Hid, hnxT.out, hM.out, hts]; exact hp6.out
                      clear hts
                      go_wp2
                      go_roundw
                      case rel => exact ⟨j + 1, M, by go_num, by omega, rfl, hf, p4⟩
                      case measure => simp [intOf]; omega
                · obtain ⟨p6, e_p6⟩ : ∃ p, p5 ++ (⟨#[32, 33, 61, 32]⟩ : ByteArray) = p := ⟨_, rfl⟩
                  have d_p6 := (cat_to (m := 3301000010) (n := 4) e_p6 z_p5.out (by decide) (by decide)).1
                  have z_p6 : Hid (p6.size ≤ 3301000014) := (cat_to (m := 3301000010) (n := 4) e_p6 z_p5.out (by decide) (by decide)).2
                  replace e_p6 := hid_mk e_p6
                  have hp6 : Hid (p6 ++ jnB (⟨#[44]⟩ : ByteArray) (sps.map spanB) = p2 ++ relB ⟨mod, true, sps⟩) := by
                    have := relB_ref ⟨mod, true, sps⟩ p2
                    dsimp only at this
                    rw [if_pos hpos, if_pos rfl, e_p3.out, e_p4.out, e_p5.out, e_p6.out] at this
                    exact this
                  go_wp2_with fail
                  refine (Itoa_any mod _ (by omega) (by omega) (ht.out.to qx.out)).mono ?_
                  rintro e wy ⟨rfl, hbN⟩
                  have hby := hid_mk (after (w := wo) hbN hbx.out).1
                  have qy := hid_mk (after (w := w) hbN qx.out).1
                  have hXy := hid_mk (hX.out.keep hbN)
                  have hSpy := hid_mk (hSpx.out.to hbN)
                  clear hbN hX hSpx hbx qx
                  obtain ⟨y0, y1, y2, y3⟩ := blk3z hXy.out
                  go_wp2_with fail
                  go_loopw [3, 52] (fun mv iv wr => ∃ (i : Nat) (M : ByteArray), iv = .int .i64 i ∧ i ≤ nx ∧ mv = .string M ∧ Hid (M = p6 ++ jnB (⟨#[44]⟩ : ByteArray) ((sps.take i).map spanB)) ∧ Hid (Below wy.heap.size wy wr)) (fun _ iv _ => nx - (intOf iv).toNat)
                  case atStart => exact ⟨0, p6, rfl, Nat.zero_le _, rfl, (app_nil _ _).symm, Below.refl _ _⟩
                  case round =>
                    obtain ⟨i, M, rfl, hi, rfl, hM, hb4⟩ := hrel
                    have q4 := hid_mk (after (w := w) hb4.out qy.out).1
                    have p4 := hid_mk (after (w := wo) hb4.out hby.out).1
                    clear y0 y1 y2 y3
                    obtain ⟨y0, y1, y2, y3⟩ := blk3z (hXy.out.keep hb4.out)
                    by_cases hli : i < nx
                    · obtain ⟨b5, o5, s, heq5, hbl5, hd5, g0, g1⟩ := (hSpy.out.to hb4.out).at_ hli
                      subst heq5
                      obtain ⟨s1, s2, s3⟩ := span_ok (hsps.out s (mem_drop' hd5.out))
                      have hnxM := hid_mk (snoc_to hd5.out hM.out)
                      obtain ⟨lo, hi5⟩ := s
                      dsimp only at *
                      have z_M : Hid (M.size ≤ 3331000014) := by rw [Hid, hM.out, ByteArray.size_append]; have := z_p6.out; have := spans_sz (k := i) hs10.out hsps.out; omega
                      have i0 : (0 : Int) ≤ i := by omega
                      have i1 : (i : Int) < nx := by omega
                      have qx5 : Below wr.heap.size wr (wr.alloc (.cells #[.int .i64 lo, .int .i64 hi5] 45)) := (Below.refl _ _).alloc (Nat.le_refl _) _
                      have hb6 := hid_mk (after (w := wy) qx5 hb4.out).1
                      have q6 := hid_mk (after (w := w) qx5 q4.out).1
                      have hS5 := hid_mk (Blk.new wr 45 #[.int .i64 lo, .int .i64 hi5])
                      clear qx5
                      have zlo : Hid ((itB lo).size ≤ 1000001) := it_len s1 (by omega)
                      have zhi : Hid ((itB hi5).size ≤ 1000001) := it_len (by omega) s3
                      replace hd5 := hid_mk hd5
                      by_cases hi0 : 0 < i
                      · obtain ⟨m1, e_m1⟩ : ∃ p, M ++ (⟨#[44]⟩ : ByteArray) = p := ⟨_, rfl⟩
                        have d_m1 := (cat_to (m := 3331000014) (n := 1) e_m1 z_M.out (by decide) (by decide)).1
                        have z_m1 : Hid (m1.size ≤ 3331000015) := (cat_to (m := 3331000014) (n := 1) e_m1 z_M.out (by decide) (by decide)).2
                        replace e_m1 := hid_mk e_m1
                        have i2 : (0 : Int) < i := by omega
                        replace hnxM : Hid (p6 ++ jnB (⟨#[44]⟩ : ByteArray) ((sps.take (i + 1)).map spanB) = m1 ++ spanB (lo, hi5)) := by rw [Hid, hnxM.out, if_pos hi0, e_m1.out]
                        obtain ⟨m2, e_m2⟩ : ∃ p, m1 ++ itB lo = p := ⟨_, rfl⟩
                        have d_m2 := (cat_to (m := 3331000015) (n := 1000001) e_m2 z_m1.out zlo.out (by decide)).1
                        have z_m2 : Hid (m2.size ≤ 3332000016) := (cat_to (m := 3331000015) (n := 1000001) e_m2 z_m1.out zlo.out (by decide)).2
                        replace e_m2 := hid_mk e_m2
                        by_cases hne : lo = hi5
                        · subst hne
                          have hf : Hid (m2 = p6 ++ jnB (⟨#[44]⟩ : ByteArray) ((sps.take (i + 1)).map spanB)) := by rw [Hid, hnxM.out, show spanB (lo, lo) = itB lo from if_neg (by simp), e_m2.out]
                          go_wp2_with fail
                          refine (Itoa_any lo _ s1 (by omega) (ht.out.to q6.out)).mono ?_
                          rintro e w5 ⟨rfl, hbN⟩
                          have hb7 := hid_mk (after (w := wy) hbN hb6.out).1
                          have hS6 := hid_mk (hS5.out.keep hbN)
                          clear hbN
                          obtain ⟨t0, t1, t2⟩ := blk2z hS6.out
                          go_wp2
                          go_roundw
                          case rel => exact ⟨i + 1, m2, by go_num, by omega, rfl, hf, hb7⟩
                          case measure => simp [intOf]; omega
                        · obtain ⟨m3, e_m3⟩ : ∃ p, m2 ++ (⟨#[46, 46]⟩ : ByteArray) = p := ⟨_, rfl⟩
                          have d_m3 := (cat_to (m := 3332000016) (n := 2) e_m3 z_m2.out (by decide) (by decide)).1
                          have z_m3 : Hid (m3.size ≤ 3332000018) := (cat_to (m := 3332000016) (n := 2) e_m3 z_m2.out (by decide) (by decide)).2
                          replace e_m3 := hid_mk e_m3
                          obtain ⟨m4, e_m4⟩ : ∃ p, m3 ++ itB hi5 = p := ⟨_, rfl⟩
                          have d_m4 := (cat_to (m := 3332000018) (n := 1000001) e_m4 z_m3.out zhi.out (by decide)).1
                          have z_m4 : Hid (m4.size ≤ 3333000019) := (cat_to (m := 3332000018) (n := 1000001) e_m4 z_m3.out zhi.out (by decide)).2
                          replace e_m4 := hid_mk e_m4
                          have hsb : spanB (lo, hi5) = itB lo ++ ((⟨#[46, 46]⟩ : ByteArray) ++ itB hi5) := if_pos (by dsimp only; omega)
                          have hf : Hid (m4 = p6 ++ jnB (⟨#[44]⟩ : ByteArray) ((sps.take (i + 1)).map spanB)) := by
                            rw [Hid, hnxM.out, hsb, ← e_m4.out, ← e_m3.out, ← e_m2.out]
                            apply ba_ext
                            simp
                          clear hsb
                          go_wp2_with fail
                          refine (Itoa_any lo _ s1 (by omega) (ht.out.to q6.out)).mono ?_
                          rintro e w5 ⟨rfl, hbN⟩
                          have hb7 := hid_mk (after (w := wy) hbN hb6.out).1
                          have q7 := hid_mk (after (w := w) hbN q6.out).1
                          have hS6 := hid_mk (hS5.out.keep hbN)
                          clear hbN
                          obtain ⟨t0, t1, t2⟩ := blk2z hS6.out
                          go_wp2_with fail
                          refine (Itoa_any hi5 _ (by omega) s3 (ht.out.to q7.out)).mono ?_
                          rintro e w6 ⟨rfl, hbN⟩
                          have hb8 := hid_mk (after (w := wy) hbN hb7.out).1
                          clear hbN t0 t1 t2
                          go_wp2
                          go_roundw
                          case rel => exact ⟨i + 1, m4, by go_num, by omega, rfl, hf, hb8⟩
                          case measure => simp [intOf]; omega
                      · have i2 : ¬ (0 : Int) < i := by omega
                        replace hnxM : Hid (p6 ++ jnB (⟨#[44]⟩ : ByteArray) ((sps.take (i + 1)).map spanB) = M ++ spanB (lo, hi5)) := by rw [Hid, hnxM.out, if_neg hi0]
                        obtain ⟨m2, e_m2⟩ : ∃ p, M ++ itB lo = p := ⟨_, rfl⟩
                        have d_m2 := (cat_to (m := 3331000014) (n := 1000001) e_m2 z_M.out zlo.out (by decide)).1
                        have z_m2 : Hid (m2.size ≤ 3332000015) := (cat_to (m := 3331000014) (n := 1000001) e_m2 z_M.out zlo.out (by decide)).2
                        replace e_m2 := hid_mk e_m2
                        by_cases hne : lo = hi5
                        · subst hne
                          have hf : Hid (m2 = p6 ++ jnB (⟨#[44]⟩ : ByteArray) ((sps.take (i + 1)).map spanB)) := by rw [Hid, hnxM.out, show spanB (lo, lo) = itB lo from if_neg (by simp), e_m2.out]
                          go_wp2_with fail
                          refine (Itoa_any lo _ s1 (by omega) (ht.out.to q6.out)).mono ?_
                          rintro e w5 ⟨rfl, hbN⟩
                          have hb7 := hid_mk (after (w := wy) hbN hb6.out).1
                          have hS6 := hid_mk (hS5.out.keep hbN)
                          clear hbN
                          obtain ⟨t0, t1, t2⟩ := blk2z hS6.out
                          go_wp2
                          go_roundw
                          case rel => exact ⟨i + 1, m2, by go_num, by omega, rfl, hf, hb7⟩
                          case measure => simp [intOf]; omega
                        · obtain ⟨m3, e_m3⟩ : ∃ p, m2 ++ (⟨#[46, 46]⟩ : ByteArray) = p := ⟨_, rfl⟩
                          have d_m3 := (cat_to (m := 3332000015) (n := 2) e_m3 z_m2.out (by decide) (by decide)).1
                          have z_m3 : Hid (m3.size ≤ 3332000017) := (cat_to (m := 3332000015) (n := 2) e_m3 z_m2.out (by decide) (by decide)).2
                          replace e_m3 := hid_mk e_m3
                          obtain ⟨m4, e_m4⟩ : ∃ p, m3 ++ itB hi5 = p := ⟨_, rfl⟩
                          have d_m4 := (cat_to (m := 3332000017) (n := 1000001) e_m4 z_m3.out zhi.out (by decide)).1
                          have z_m4 : Hid (m4.size ≤ 3333000018) := (cat_to (m := 3332000017) (n := 1000001) e_m4 z_m3.out zhi.out (by decide)).2
                          replace e_m4 := hid_mk e_m4
                          have hsb : spanB (lo, hi5) = itB lo ++ ((⟨#[46, 46]⟩ : ByteArray) ++ itB hi5) := if_pos (by dsimp only; omega)
                          have hf : Hid (m4 = p6 ++ jnB (⟨#[44]⟩ : ByteArray) ((sps.take (i + 1)).map spanB)) := by
                            rw [Hid, hnxM.out, hsb, ← e_m4.out, ← e_m3.out, ← e_m2.out]
                            apply ba_ext
                            simp
                          clear hsb
                          go_wp2_with fail
                          refine (Itoa_any lo _ s1 (by omega) (ht.out.to q6.out)).mono ?_
                          rintro e w5 ⟨rfl, hbN⟩
                          have hb7 := hid_mk (after (w := wy) hbN hb6.out).1
                          have q7 := hid_mk (after (w := w) hbN q6.out).1
                          have hS6 := hid_mk (hS5.out.keep hbN)
                          clear hbN
                          obtain ⟨t0, t1, t2⟩ := blk2z hS6.out
                          go_wp2_with fail
                          refine (Itoa_any hi5 _ (by omega) s3 (ht.out.to q7.out)).mono ?_
                          rintro e w6 ⟨rfl, hbN⟩
                          have hb8 := hid_mk (after (w := wy) hbN hb7.out).1
                          clear hbN t0 t1 t2
                          go_wp2
                          go_roundw
                          case rel => exact ⟨i + 1, m4, by go_num, by omega, rfl, hf, hb8⟩
                          case measure => simp [intOf]; omega
                    · have hts : sps.take i = sps := List.take_of_length_le (by have := hxl.out; omega)
                      have hf : Hid (M = S ++ jnB (⟨#[32, 97, 110, 100, 32]⟩ : ByteArray) ((r.take (j + 1)).map relB)) := by rw [Hid, hnxT.out, hM.out, hts]; exact hp6.out
                      clear hts
                      go_wp2
                      go_roundw
                      case rel => exact ⟨j + 1, M, by go_num, by omega, rfl, hf, p4⟩
                      case measure => simp [intOf]; omega
              · cases nt
                · obtain ⟨p6, e_p6⟩ : ∃ p, p3 ++ (⟨#[32, 61, 32]⟩ : ByteArray) = p := ⟨_, rfl⟩
                  have d_p6 := (cat_to (m := 3300000006) (n := 4) e_p6 z_p3.out (by decide) (by decide)).1
                  have z_p6 : Hid (p6.size ≤ 3300000010) := (cat_to (m := 3300000006) (n := 4) e_p6 z_p3.out (by decide) (by decide)).2
                  replace e_p6 := hid_mk e_p6
                  have hp6 : Hid (p6 ++ jnB (⟨#[44]⟩ : ByteArray) (sps.map spanB) = p2 ++ relB ⟨mod, false, sps⟩) := by
                    have := relB_ref ⟨mod, false, sps⟩ p2
                    dsimp only at this
                    rw [if_neg hpos, if_neg (by simp), e_p3.out, e_p6.out] at this
                    exact this
                  go_wp2_with fail
                  obtain ⟨wy, hwy⟩ : ∃ wy, wr.alloc (.cells #[.int .i64 mod, .bool false, .slice Ax nx cx] 37) = wy := ⟨_, rfl⟩
                  rw [hwy] at hbx qx hX hSpx ⊢
                  clear hwy
                  have hby := hbx
                  have qy := qx
                  have hXy := hX
                  have hSpy := hSpx
                  clear hX hSpx hbx qx
                  obtain ⟨y0, y1, y2, y3⟩ := blk3z hXy.out
                  go_loopw [3, 52] (fun mv iv wr => ∃ (i : Nat) (M : ByteArray), iv = .int .i64 i ∧ i ≤ nx ∧ mv = .string M ∧ Hid (M = p6 ++ jnB (⟨#[44]⟩ : ByteArray) ((sps.take i).map spanB)) ∧ Hid (Below wy.heap.size wy wr)) (fun _ iv _ => nx - (intOf iv).toNat)
                  case atStart => exact ⟨0, p6, rfl, Nat.zero_le _, rfl, (app_nil _ _).symm, Below.refl _ _⟩
                  case round =>
                    obtain ⟨i, M, rfl, hi, rfl, hM, hb4⟩ := hrel
                    have q4 := hid_mk (after (w := w) hb4.out qy.out).1
                    have p4 := hid_mk (after (w := wo) hb4.out hby.out).1
                    clear y0 y1 y2 y3
                    obtain ⟨y0, y1, y2, y3⟩ := blk3z (hXy.out.keep hb4.out)
                    by_cases hli : i < nx
                    · obtain ⟨b5, o5, s, heq5, hbl5, hd5, g0, g1⟩ := (hSpy.out.to hb4.out).at_ hli
                      subst heq5
                      obtain ⟨s1, s2, s3⟩ := span_ok (hsps.out s (mem_drop' hd5.out))
                      have hnxM := hid_mk (snoc_to hd5.out hM.out)
                      obtain ⟨lo, hi5⟩ := s
                      dsimp only at *
                      have z_M : Hid (M.size ≤ 3330000010) := by rw [Hid, hM.out, ByteArray.size_append]; have := z_p6.out; have := spans_sz (k := i) hs10.out hsps.out; omega
                      have i0 : (0 : Int) ≤ i := by omega
                      have i1 : (i : Int) < nx := by omega
                      have qx5 : Below wr.heap.size wr (wr.alloc (.cells #[.int .i64 lo, .int .i64 hi5] 45)) := (Below.refl _ _).alloc (Nat.le_refl _) _
                      have hb6 := hid_mk (after (w := wy) qx5 hb4.out).1
                      have q6 := hid_mk (after (w := w) qx5 q4.out).1
                      have hS5 := hid_mk (Blk.new wr 45 #[.int .i64 lo, .int .i64 hi5])
                      clear qx5
                      have zlo : Hid ((itB lo).size ≤ 1000001) := it_len s1 (by omega)
                      have zhi : Hid ((itB hi5).size ≤ 1000001) := it_len (by omega) s3
                      replace hd5 := hid_mk hd5
                      by_cases hi0 : 0 < i
                      · obtain ⟨m1, e_m1⟩ : ∃ p, M ++ (⟨#[44]⟩ : ByteArray) = p := ⟨_, rfl⟩
                        have d_m1 := (cat_to (m := 3330000010) (n := 1) e_m1 z_M.out (by decide) (by decide)).1
                        have z_m1 : Hid (m1.size ≤ 3330000011) := (cat_to (m := 3330000010) (n := 1) e_m1 z_M.out (by decide) (by decide)).2
                        replace e_m1 := hid_mk e_m1
                        have i2 : (0 : Int) < i := by omega
                        replace hnxM : Hid (p6 ++ jnB (⟨#[44]⟩ : ByteArray) ((sps.take (i + 1)).map spanB) = m1 ++ spanB (lo, hi5)) := by rw [Hid, hnxM.out, if_pos hi0, e_m1.out]
                        obtain ⟨m2, e_m2⟩ : ∃ p, m1 ++ itB lo = p := ⟨_, rfl⟩
                        have d_m2 := (cat_to (m := 3330000011) (n := 1000001) e_m2 z_m1.out zlo.out (by decide)).1
                        have z_m2 : Hid (m2.size ≤ 3331000012) := (cat_to (m := 3330000011) (n := 1000001) e_m2 z_m1.out zlo.out (by decide)).2
                        replace e_m2 := hid_mk e_m2
                        by_cases hne : lo = hi5
                        · subst hne
                          have hf : Hid (m2 = p6 ++ jnB (⟨#[44]⟩ : ByteArray) ((sps.take (i + 1)).map spanB)) := by rw [Hid, hnxM.out, show spanB (lo, lo) = itB lo from if_neg (by simp), e_m2.out]
                          go_wp2_with fail
                          refine (Itoa_any lo _ s1 (by omega) (ht.out.to q6.out)).mono ?_
                          rintro e w5 ⟨rfl, hbN⟩
                          have hb7 := hid_mk (after (w := wy) hbN hb6.out).1
                          have hS6 := hid_mk (hS5.out.keep hbN)
                          clear hbN
                          obtain ⟨t0, t1, t2⟩ := blk2z hS6.out
                          go_wp2
                          go_roundw
                          case rel => exact ⟨i + 1, m2, by go_num, by omega, rfl, hf, hb7⟩
                          case measure => simp [intOf]; omega
                        · obtain ⟨m3, e_m3⟩ : ∃ p, m2 ++ (⟨#[46, 46]⟩ : ByteArray) = p := ⟨_, rfl⟩
                          have d_m3 := (cat_to (m := 3331000012) (n := 2) e_m3 z_m2.out (by decide) (by decide)).1
                          have z_m3 : Hid (m3.size ≤ 3331000014) := (cat_to (m := 3331000012) (n := 2) e_m3 z_m2.out (by decide) (by decide)).2
                          replace e_m3 := hid_mk e_m3
                          obtain ⟨m4, e_m4⟩ : ∃ p, m3 ++ itB hi5 = p := ⟨_, rfl⟩
                          have d_m4 := (cat_to (m := 3331000014) (n := 1000001) e_m4 z_m3.out zhi.out (by decide)).1
                          have z_m4 : Hid (m4.size ≤ 3332000015) := (cat_to (m := 3331000014) (n := 1000001) e_m4 z_m3.out zhi.out (by decide)).2
                          replace e_m4 := hid_mk e_m4
                          have hsb : spanB (lo, hi5) = itB lo ++ ((⟨#[46, 46]⟩ : ByteArray) ++ itB hi5) := if_pos (by dsimp only; omega)
                          have hf : Hid (m4 = p6 ++ jnB (⟨#[44]⟩ : ByteArray) ((sps.take (i + 1)).map spanB)) := by
                            rw [Hid, hnxM.out, hsb, ← e_m4.out, ← e_m3.out, ← e_m2.out]
                            apply ba_ext
                            simp
                          clear hsb
                          go_wp2_with fail
                          refine (Itoa_any lo _ s1 (by omega) (ht.out.to q6.out)).mono ?_
                          rintro e w5 ⟨rfl, hbN⟩
                          have hb7 := hid_mk (after (w := wy) hbN hb6.out).1
                          have q7 := hid_mk (after (w := w) hbN q6.out).1
                          have hS6 := hid_mk (hS5.out.keep hbN)
                          clear hbN
                          obtain ⟨t0, t1, t2⟩ := blk2z hS6.out
                          go_wp2_with fail
                          refine (Itoa_any hi5 _ (by omega) s3 (ht.out.to q7.out)).mono ?_
                          rintro e w6 ⟨rfl, hbN⟩
                          have hb8 := hid_mk (after (w := wy) hbN hb7.out).1
                          clear hbN t0 t1 t2
                          go_wp2
                          go_roundw
                          case rel => exact ⟨i + 1, m4, by go_num, by omega, rfl, hf, hb8⟩
                          case measure => simp [intOf]; omega
                      · have i2 : ¬ (0 : Int) < i := by omega
                        replace hnxM : Hid (p6 ++ jnB (⟨#[44]⟩ : ByteArray) ((sps.take (i + 1)).map spanB) = M ++ spanB (lo, hi5)) := by rw [Hid, hnxM.out, if_neg hi0]
                        obtain ⟨m2, e_m2⟩ : ∃ p, M ++ itB lo = p := ⟨_, rfl⟩
                        have d_m2 := (cat_to (m := 3330000010) (n := 1000001) e_m2 z_M.out zlo.out (by decide)).1
                        have z_m2 : Hid (m2.size ≤ 3331000011) := (cat_to (m := 3330000010) (n := 1000001) e_m2 z_M.out zlo.out (by decide)).2
                        replace e_m2 := hid_mk e_m2
                        by_cases hne : lo = hi5
                        · subst hne
                          have hf : Hid (m2 = p6 ++ jnB (⟨#[44]⟩ : ByteArray) ((sps.take (i + 1)).map spanB)) := by rw [Hid, hnxM.out, show spanB (lo, lo) = itB lo from if_neg (by simp), e_m2.out]
                          go_wp2_with fail
                          refine (Itoa_any lo _ s1 (by omega) (ht.out.to q6.out)).mono ?_
                          rintro e w5 ⟨rfl, hbN⟩
                          have hb7 := hid_mk (after (w := wy) hbN hb6.out).1
                          have hS6 := hid_mk (hS5.out.keep hbN)
                          clear hbN
                          obtain ⟨t0, t1, t2⟩ := blk2z hS6.out
                          go_wp2
                          go_roundw
                          case rel => exact ⟨i + 1, m2, by go_num, by omega, rfl, hf, hb7⟩
                          case measure => simp [intOf]; omega
                        · obtain ⟨m3, e_m3⟩ : ∃ p, m2 ++ (⟨#[46, 46]⟩ : ByteArray) = p := ⟨_, rfl⟩
                          have d_m3 := (cat_to (m := 3331000011) (n := 2) e_m3 z_m2.out (by decide) (by decide)).1
                          have z_m3 : Hid (m3.size ≤ 3331000013) := (cat_to (m := 3331000011) (n := 2) e_m3 z_m2.out (by decide) (by decide)).2
                          replace e_m3 := hid_mk e_m3
                          obtain ⟨m4, e_m4⟩ : ∃ p, m3 ++ itB hi5 = p := ⟨_, rfl⟩
                          have d_m4 := (cat_to (m := 3331000013) (n := 1000001) e_m4 z_m3.out zhi.out (by decide)).1
                          have z_m4 : Hid (m4.size ≤ 3332000014) := (cat_to (m := 3331000013) (n := 1000001) e_m4 z_m3.out zhi.out (by decide)).2
                          replace e_m4 := hid_mk e_m4
                          have hsb : spanB (lo, hi5) = itB lo ++ ((⟨#[46, 46]⟩ : ByteArray) ++ itB hi5) := if_pos (by dsimp only; omega)
                          have hf : Hid (m4 = p6 ++ jnB (⟨#[44]⟩ : ByteArray) ((sps.take (i + 1)).map spanB)) := by
                            rw [Hid, hnxM.out, hsb, ← e_m4.out, ← e_m3.out, ← e_m2.out]
                            apply ba_ext
                            simp
                          clear hsb
                          go_wp2_with fail
                          refine (Itoa_any lo _ s1 (by omega) (ht.out.to q6.out)).mono ?_
                          rintro e w5 ⟨rfl, hbN⟩
                          have hb7 := hid_mk (after (w := wy) hbN hb6.out).1
                          have q7 := hid_mk (after (w := w) hbN q6.out).1
                          have hS6 := hid_mk (hS5.out.keep hbN)
                          clear hbN
                          obtain ⟨t0, t1, t2⟩ := blk2z hS6.out
                          go_wp2_with fail
                          refine (Itoa_any hi5 _ (by omega) s3 (ht.out.to q7.out)).mono ?_
                          rintro e w6 ⟨rfl, hbN⟩
                          have hb8 := hid_mk (after (w := wy) hbN hb7.out).1
                          clear hbN t0 t1 t2
                          go_wp2
                          go_roundw
                          case rel => exact ⟨i + 1, m4, by go_num, by omega, rfl, hf, hb8⟩
                          case measure => simp [intOf]; omega
                    · have hts : sps.take i = sps := List.take_of_length_le (by have := hxl.out; omega)
                      have hf : Hid (M = S ++ jnB (⟨#[32, 97, 110, 100, 32]⟩ : ByteArray) ((r.take (j + 1)).map relB)) := by rw [Hid, hnxT.out, hM.out, hts]; exact hp6.out
                      clear hts
                      go_wp2
                      go_roundw
                      case rel => exact ⟨j + 1, M, by go_num, by omega, rfl, hf, p4⟩
                      case measure => simp [intOf]; omega
                · obtain ⟨p6, e_p6⟩ : ∃ p, p3 ++ (⟨#[32, 33, 61, 32]⟩ : ByteArray) = p := ⟨_, rfl⟩
                  have d_p6 := (cat_to (m := 3300000006) (n := 4) e_p6 z_p3.out (by decide) (by decide)).1
                  have z_p6 : Hid (p6.size ≤ 3300000010) := (cat_to (m := 3300000006) (n := 4) e_p6 z_p3.out (by decide) (by decide)).2
                  replace e_p6 := hid_mk e_p6
                  have hp6 : Hid (p6 ++ jnB (⟨#[44]⟩ : ByteArray) (sps.map spanB) = p2 ++ relB ⟨mod, true, sps⟩) := by
                    have := relB_ref ⟨mod, true, sps⟩ p2
                    dsimp only at this
                    rw [if_neg hpos, if_pos rfl, e_p3.out, e_p6.out] at this
                    exact this
                  go_wp2_with fail
                  obtain ⟨wy, hwy⟩ : ∃ wy, wr.alloc (.cells #[.int .i64 mod, .bool true, .slice Ax nx cx] 37) = wy := ⟨_, rfl⟩
                  rw [hwy] at hbx qx hX hSpx ⊢
                  clear hwy
                  have hby := hbx
                  have qy := qx
                  have hXy := hX
                  have hSpy := hSpx
                  clear hX hSpx hbx qx
                  obtain ⟨y0, y1, y2, y3⟩ := blk3z hXy.out
                  go_loopw [3, 52] (fun mv iv wr => ∃ (i : Nat) (M : ByteArray), iv = .int .i64 i ∧ i ≤ nx ∧ mv = .string M ∧ Hid (M = p6 ++ jnB (⟨#[44]⟩ : ByteArray) ((sps.take i).map spanB)) ∧ Hid (Below wy.heap.size wy wr)) (fun _ iv _ => nx - (intOf iv).toNat)
                  case atStart => exact ⟨0, p6, rfl, Nat.zero_le _, rfl, (app_nil _ _).symm, Below.refl _ _⟩
                  case round =>
                    obtain ⟨i, M, rfl, hi, rfl, hM, hb4⟩ := hrel
                    have q4 := hid_mk (after (w := w) hb4.out qy.out).1
                    have p4 := hid_mk (after (w := wo) hb4.out hby.out).1
                    clear y0 y1 y2 y3
                    obtain ⟨y0, y1, y2, y3⟩ := blk3z (hXy.out.keep hb4.out)
                    by_cases hli : i < nx
                    · obtain ⟨b5, o5, s, heq5, hbl5, hd5, g0, g1⟩ := (hSpy.out.to hb4.out).at_ hli
                      subst heq5
                      obtain ⟨s1, s2, s3⟩ := span_ok (hsps.out s (mem_drop' hd5.out))
                      have hnxM := hid_mk (snoc_to hd5.out hM.out)
                      obtain ⟨lo, hi5⟩ := s
                      dsimp only at *
                      have z_M : Hid (M.size ≤ 3330000010) := by rw [Hid, hM.out, ByteArray.size_append]; have := z_p6.out; have := spans_sz (k := i) hs10.out hsps.out; omega
                      have i0 : (0 : Int) ≤ i := by omega
                      have i1 : (i : Int) < nx := by omega
                      have qx5 : Below wr.heap.size wr (wr.alloc (.cells #[.int .i64 lo, .int .i64 hi5] 45)) := (Below.refl _ _).alloc (Nat.le_refl _) _
                      have hb6 := hid_mk (after (w := wy) qx5 hb4.out).1
                      have q6 := hid_mk (after (w := w) qx5 q4.out).1
                      have hS5 := hid_mk (Blk.new wr 45 #[.int .i64 lo, .int .i64 hi5])
                      clear qx5
                      have zlo : Hid ((itB lo).size ≤ 1000001) := it_len s1 (by omega)
                      have zhi : Hid ((itB hi5).size ≤ 1000001) := it_len (by omega) s3
                      replace hd5 := hid_mk hd5
                      by_cases hi0 : 0 < i
                      · obtain ⟨m1, e_m1⟩ : ∃ p, M ++ (⟨#[44]⟩ : ByteArray) = p := ⟨_, rfl⟩
                        have d_m1 := (cat_to (m := 3330000010) (n := 1) e_m1 z_M.out (by decide) (by decide)).1
                        have z_m1 : Hid (m1.size ≤ 3330000011) := (cat_to (m := 3330000010) (n := 1) e_m1 z_M.out (by decide) (by decide)).2
                        replace e_m1 := hid_mk e_m1
                        have i2 : (0 : Int) < i := by omega
                        replace hnxM : Hid (p6 ++ jnB (⟨#[44]⟩ : ByteArray) ((sps.take (i + 1)).map spanB) = m1 ++ spanB (lo, hi5)) := by rw [Hid, hnxM.out, if_pos hi0, e_m1.out]
                        obtain ⟨m2, e_m2⟩ : ∃ p, m1 ++ itB lo = p := ⟨_, rfl⟩
                        have d_m2 := (cat_to (m := 3330000011) (n := 1000001) e_m2 z_m1.out zlo.out (by decide)).1
                        have z_m2 : Hid (m2.size ≤ 3331000012) := (cat_to (m := 3330000011) (n := 1000001) e_m2 z_m1.out zlo.out (by decide)).2
                        replace e_m2 := hid_mk e_m2
                        by_cases hne : lo = hi5
                        · subst hne
                          have hf : Hid (m2 = p6 ++ jnB (⟨#[44]⟩ : ByteArray) ((sps.take (i + 1)).map spanB)) := by rw [Hid, hnxM.out, show spanB (lo, lo) = itB lo from if_neg (by simp), e_m2.out]
                          go_wp2_with fail
                          refine (Itoa_any lo _ s1 (by omega) (ht.out.to q6.out)).mono ?_
                          rintro e w5 ⟨rfl, hbN⟩
                          have hb7 := hid_mk (after (w := wy) hbN hb6.out).1
                          have hS6 := hid_mk (hS5.out.keep hbN)
                          clear hbN
                          obtain ⟨t0, t1, t2⟩ := blk2z hS6.out
                          go_wp2
                          go_roundw
                          case rel => exact ⟨i + 1, m2, by go_num, by omega, rfl, hf, hb7⟩
                          case measure => simp [intOf]; omega
                        · obtain ⟨m3, e_m3⟩ : ∃ p, m2 ++ (⟨#[46, 46]⟩ : ByteArray) = p := ⟨_, rfl⟩
                          have d_m3 := (cat_to (m := 3331000012) (n := 2) e_m3 z_m2.out (by decide) (by decide)).1
                          have z_m3 : Hid (m3.size ≤ 3331000014) := (cat_to (m := 3331000012) (n := 2) e_m3 z_m2.out (by decide) (by decide)).2
                          replace e_m3 := hid_mk e_m3
                          obtain ⟨m4, e_m4⟩ : ∃ p, m3 ++ itB hi5 = p := ⟨_, rfl⟩
                          have d_m4 := (cat_to (m := 3331000014) (n := 1000001) e_m4 z_m3.out zhi.out (by decide)).1
                          have z_m4 : Hid (m4.size ≤ 3332000015) := (cat_to (m := 3331000014) (n := 1000001) e_m4 z_m3.out zhi.out (by decide)).2
                          replace e_m4 := hid_mk e_m4
                          have hsb : spanB (lo, hi5) = itB lo ++ ((⟨#[46, 46]⟩ : ByteArray) ++ itB hi5) := if_pos (by dsimp only; omega)
                          have hf : Hid (m4 = p6 ++ jnB (⟨#[44]⟩ : ByteArray) ((sps.take (i + 1)).map spanB)) := by
                            rw [Hid, hnxM.out, hsb, ← e_m4.out, ← e_m3.out, ← e_m2.out]
                            apply ba_ext
                            simp
                          clear hsb
                          go_wp2_with fail
                          refine (Itoa_any lo _ s1 (by omega) (ht.out.to q6.out)).mono ?_
                          rintro e w5 ⟨rfl, hbN⟩
                          have hb7 := hid_mk (after (w := wy) hbN hb6.out).1
                          have q7 := hid_mk (after (w := w) hbN q6.out).1
                          have hS6 := hid_mk (hS5.out.keep hbN)
                          clear hbN
                          obtain ⟨t0, t1, t2⟩ := blk2z hS6.out
                          go_wp2_with fail
                          refine (Itoa_any hi5 _ (by omega) s3 (ht.out.to q7.out)).mono ?_
                          rintro e w6 ⟨rfl, hbN⟩
                          have hb8 := hid_mk (after (w := wy) hbN hb7.out).1
                          clear hbN t0 t1 t2
                          go_wp2
                          go_roundw
                          case rel => exact ⟨i + 1, m4, by go_num, by omega, rfl, hf, hb8⟩
                          case measure => simp [intOf]; omega
                      · have i2 : ¬ (0 : Int) < i := by omega
                        replace hnxM : Hid (p6 ++ jnB (⟨#[44]⟩ : ByteArray) ((sps.take (i + 1)).map spanB) = M ++ spanB (lo, hi5)) := by rw [Hid, hnxM.out, if_neg hi0]
                        obtain ⟨m2, e_m2⟩ : ∃ p, M ++ itB lo = p := ⟨_, rfl⟩
                        have d_m2 := (cat_to (m := 3330000010) (n := 1000001) e_m2 z_M.out zlo.out (by decide)).1
                        have z_m2 : Hid (m2.size ≤ 3331000011) := (cat_to (m := 3330000010) (n := 1000001) e_m2 z_M.out zlo.out (by decide)).2
                        replace e_m2 := hid_mk e_m2
                        by_cases hne : lo = hi5
                        · subst hne
                          have hf : Hid (m2 = p6 ++ jnB (⟨#[44]⟩ : ByteArray) ((sps.take (i + 1)).map spanB)) := by rw [Hid, hnxM.out, show spanB (lo, lo) = itB lo from if_neg (by simp), e_m2.out]
                          go_wp2_with fail
                          refine (Itoa_any lo _ s1 (by omega) (ht.out.to q6.out)).mono ?_
                          rintro e w5 ⟨rfl, hbN⟩
                          have hb7 := hid_mk (after (w := wy) hbN hb6.out).1
                          have hS6 := hid_mk (hS5.out.keep hbN)
                          clear hbN
                          obtain ⟨t0, t1, t2⟩ := blk2z hS6.out
                          go_wp2
                          go_roundw
                          case rel => exact ⟨i + 1, m2, by go_num, by omega, rfl, hf, hb7⟩
                          case measure => simp [intOf]; omega
                        · obtain ⟨m3, e_m3⟩ : ∃ p, m2 ++ (⟨#[46, 46]⟩ : ByteArray) = p := ⟨_, rfl⟩
                          have d_m3 := (cat_to (m := 3331000011) (n := 2) e_m3 z_m2.out (by decide) (by decide)).1
                          have z_m3 : Hid (m3.size ≤ 3331000013) := (cat_to (m := 3331000011) (n := 2) e_m3 z_m2.out (by decide) (by decide)).2
                          replace e_m3 := hid_mk e_m3
                          obtain ⟨m4, e_m4⟩ : ∃ p, m3 ++ itB hi5 = p := ⟨_, rfl⟩
                          have d_m4 := (cat_to (m := 3331000013) (n := 1000001) e_m4 z_m3.out zhi.out (by decide)).1
                          have z_m4 : Hid (m4.size ≤ 3332000014) := (cat_to (m := 3331000013) (n := 1000001) e_m4 z_m3.out zhi.out (by decide)).2
                          replace e_m4 := hid_mk e_m4
                          have hsb : spanB (lo, hi5) = itB lo ++ ((⟨#[46, 46]⟩ : ByteArray) ++ itB hi5) := if_pos (by dsimp only; omega)
                          have hf : Hid (m4 = p6 ++ jnB (⟨#[44]⟩ : ByteArray) ((sps.take (i + 1)).map spanB)) := by
                            rw [Hid, hnxM.out, hsb, ← e_m4.out, ← e_m3.out, ← e_m2.out]
                            apply ba_ext
                            simp
                          clear hsb
                          go_wp2_with fail
                          refine (Itoa_any lo _ s1 (by omega) (ht.out.to q6.out)).mono ?_
                          rintro e w5 ⟨rfl, hbN⟩
                          have hb7 := hid_mk (after (w := wy) hbN hb6.out).1
                          have q7 := hid_mk (after (w := w) hbN q6.out).1
                          have hS6 := hid_mk (hS5.out.keep hbN)
                          clear hbN
                          obtain ⟨t0, t1, t2⟩ := blk2z hS6.out
                          go_wp2_with fail
                          refine (Itoa_any hi5 _ (by omega) s3 (ht.out.to q7.out)).mono ?_
                          rintro e w6 ⟨rfl, hbN⟩
                          have hb8 := hid_mk (after (w := wy) hbN hb7.out).1
                          clear hbN t0 t1 t2
                          go_wp2
                          go_roundw
                          case rel => exact ⟨i + 1, m4, by go_num, by omega, rfl, hf, hb8⟩
                          case measure => simp [intOf]; omega
                    · have hts : sps.take i = sps := List.take_of_length_le (by have := hxl.out; omega)
                      have hf : Hid (M = S ++ jnB (⟨#[32, 97, 110, 100, 32]⟩ : ByteArray) ((r.take (j + 1)).map relB)) := by rw [Hid, hnxT.out, hM.out, hts]; exact hp6.out
                      clear hts
                      go_wp2
                      go_roundw
                      case rel => exact ⟨j + 1, M, by go_num, by omega, rfl, hf, p4⟩
                      case measure => simp [intOf]; omega
            · have j2 : ¬ (0 : Int) < j := by omega
              replace hnxT : Hid (S ++ jnB (⟨#[32, 97, 110, 100, 32]⟩ : ByteArray) ((r.take (j + 1)).map relB) = T ++ relB ⟨mod, nt, sps⟩) := by rw [Hid, hnxT.out, if_neg hj0]
              obtain ⟨p3, e_p3⟩ : ∃ p, T ++ (⟨#[105]⟩ : ByteArray) = p := ⟨_, rfl⟩
              have d_p3 := (cat_to (m := 3300000000) (n := 1) e_p3 z_T.out (by decide) (by decide)).1
              have z_p3 : Hid (p3.size ≤ 3300000001) := (cat_to (m := 3300000000) (n := 1) e_p3 z_T.out (by decide) (by decide)).2
              replace e_p3 := hid_mk e_p3
              by_cases hpos : 0 < mod
              · have zmod : Hid ((itB mod).size ≤ 1000001) := it_len (by omega) (by omega)
                obtain ⟨p4, e_p4⟩ : ∃ p, p3 ++ (⟨#[32, 37, 32]⟩ : ByteArray) = p := ⟨_, rfl⟩
                have d_p4 := (cat_to (m := 3300000001) (n := 3) e_p4 z_p3.out (by decide) (by decide)).1
                have z_p4 : Hid (p4.size ≤ 3300000004) := (cat_to (m := 3300000001) (n := 3) e_p4 z_p3.out (by decide) (by decide)).2
                replace e_p4 := hid_mk e_p4
                obtain ⟨p5, e_p5⟩ : ∃ p, p4 ++ itB mod = p := ⟨_, rfl⟩
                have d_p5 := (cat_to (m := 3300000004) (n := 1000001) e_p5 z_p4.out zmod.out (by decide)).1
                have z_p5 : Hid (p5.size ≤ 3301000005) := (cat_to (m := 3300000004) (n := 1000001) e_p5 z_p4.out zmod.out (by decide)).2
                replace e_p5 := hid_mk e_p5
                cases nt
                · obtain ⟨p6, e_p6⟩ : ∃ p, p5 ++ (⟨#[32, 61, 32]⟩ : ByteArray) = p := ⟨_, rfl⟩
                  have d_p6 := (cat_to (m := 3301000005) (n := 4) e_p6 z_p5.out (by decide) (by decide)).1
                  have z_p6 : Hid (p6.size ≤ 3301000009) := (cat_to (m := 3301000005) (n := 4) e_p6 z_p5.out (by decide) (by decide)).2
                  replace e_p6 := hid_mk e_p6
                  have hp6 : Hid (p6 ++ jnB (⟨#[44]⟩ : ByteArray) (sps.map spanB) = T ++ relB ⟨mod, false, sps⟩) := by
                    have := relB_ref ⟨mod, false, sps⟩ T
                    dsimp only at this
                    rw [if_pos hpos, if_neg (by simp), e_p3.out, e_p4.out, e_p5.out, e_p6.out] at this
                    exact this
                  go_wp2_with fail
                  refine (Itoa_any mod _ (by omega) (by omega) (ht.out.to qx.out)).mono ?_
                  rintro e wy ⟨rfl, hbN⟩
                  have hby := hid_mk (after (w := wo) hbN hbx.out).1
                  have qy := hid_mk (after (w := w) hbN qx.out).1
                  have hXy := hid_mk (hX.out.keep hbN)
                  have hSpy := hid_mk (hSpx.out.to hbN)
                  clear hbN hX hSpx hbx qx
                  obtain ⟨y0, y1, y2, y3⟩ := blk3z hXy.out
                  go_wp2_with fail
                  go_loopw [3, 52] (fun mv iv wr => ∃ (i : Nat) (M : ByteArray), iv = .int .i64 i ∧ i ≤ nx ∧ mv = .string M ∧ Hid (M = p6 ++ jnB (⟨#[44]⟩ : ByteArray) ((sps.take i).map spanB)) ∧ Hid (Below wy.heap.size wy wr)) (fun _ iv _ => nx - (intOf iv).toNat)
                  case atStart => exact ⟨0, p6, rfl, Nat.zero_le _, rfl, (app_nil _ _).symm, Below.refl _ _⟩
                  case round =>
                    obtain ⟨i, M, rfl, hi, rfl, hM, hb4⟩ := hrel
                    have q4 := hid_mk (after (w := w) hb4.out qy.out).1
                    have p4 := hid_mk (after (w := wo) hb4.out hby.out).1
                    clear y0 y1 y2 y3
                    obtain ⟨y0, y1, y2, y3⟩ := blk3z (hXy.out.keep hb4.out)
                    by_cases hli : i < nx
                    · obtain ⟨b5, o5, s, heq5, hbl5, hd5, g0, g1⟩ := (hSpy.out.to hb4.out).at_ hli
                      subst heq5
                      obtain ⟨s1, s2, s3⟩ := span_ok (hsps.out s (mem_drop' hd5.out))
                      have hnxM := hid_mk (snoc_to hd5.out hM.out)
                      obtain ⟨lo, hi5⟩ := s
                      dsimp only at *
                      have z_M : Hid (M.size ≤ 3331000009) := by rw [Hid, hM.out, ByteArray.size_append]; have := z_p6.out; have := spans_sz (k := i) hs10.out hsps.out; omega
                      have i0 : (0 : Int) ≤ i := by omega
                      have i1 : (i : Int) < nx := by omega
                      have qx5 : Below wr.heap.size wr (wr.alloc (.cells #[.int .i64 lo, .int .i64 hi5] 45)) := (Below.refl _ _).alloc (Nat.le_refl _) _
                      have hb6 := hid_mk (after (w := wy) qx5 hb4.out).1
                      have q6 := hid_mk (after (w := w) qx5 q4.out).1
                      have hS5 := hid_mk (Blk.new wr 45 #[.int .i64 lo, .int .i64 hi5])
                      clear qx5
                      have zlo : Hid ((itB lo).size ≤ 1000001) := it_len s1 (by omega)
                      have zhi : Hid ((itB hi5).size ≤ 1000001) := it_len (by omega) s3
                      replace hd5 := hid_mk hd5
                      by_cases hi0 : 0 < i
                      · obtain ⟨m1, e_m1⟩ : ∃ p, M ++ (⟨#[44]⟩ : ByteArray) = p := ⟨_, rfl⟩
                        have d_m1 := (cat_to (m := 3331000009) (n := 1) e_m1 z_M.out (by decide) (by decide)).1
                        have z_m1 : Hid (m1.size ≤ 3331000010) := (cat_to (m := 3331000009) (n := 1) e_m1 z_M.out (by decide) (by decide)).2
                        replace e_m1 := hid_mk e_m1
                        have i2 : (0 : Int) < i := by omega
                        replace hnxM : Hid (p6 ++ jnB (⟨#[44]⟩ : ByteArray) ((sps.take (i + 1)).map spanB) = m1 ++ spanB (lo, hi5)) := by rw [Hid, hnxM.out, if_pos hi0, e_m1.out]
                        obtain ⟨m2, e_m2⟩ : ∃ p, m1 ++ itB lo = p := ⟨_, rfl⟩
                        have d_m2 := (cat_to (m := 3331000010) (n := 1000001) e_m2 z_m1.out zlo.out (by decide)).1
                        have z_m2 : Hid (m2.size ≤ 3332000011) := (cat_to (m := 3331000010) (n := 1000001) e_m2 z_m1.out zlo.out (by decide)).2
                        replace e_m2 := hid_mk e_m2
                        by_cases hne : lo = hi5
                        · subst hne
                          have hf : Hid (m2 = p6 ++ jnB (⟨#[44]⟩ : ByteArray) ((sps.take (i + 1)).map spanB)) := by rw [Hid, hnxM.out, show spanB (lo, lo) = itB lo from if_neg (by simp), e_m2.out]
                          go_wp2_with fail
                          refine (Itoa_any lo _ s1 (by omega) (ht.out.to q6.out)).mono ?_
                          rintro e w5 ⟨rfl, hbN⟩
                          have hb7 := hid_mk (after (w := wy) hbN hb6.out).1
                          have hS6 := hid_mk (hS5.out.keep hbN)
                          clear hbN
                          obtain ⟨t0, t1, t2⟩ := blk2z hS6.out
                          go_wp2
                          go_roundw
                          case rel => exact ⟨i + 1, m2, by go_num, by omega, rfl, hf, hb7⟩
                          case measure => simp [intOf]; omega
                        · obtain ⟨m3, e_m3⟩ : ∃ p, m2 ++ (⟨#[46, 46]⟩ : ByteArray) = p := ⟨_, rfl⟩
                          have d_m3 := (cat_to (m := 3332000011) (n := 2) e_m3 z_m2.out (by decide) (by decide)).1
                          have z_m3 : Hid (m3.size ≤ 3332000013) := (cat_to (m := 3332000011) (n := 2) e_m3 z_m2.out (by decide) (by decide)).2
                          replace e_m3 := hid_mk e_m3
                          obtain ⟨m4, e_m4⟩ : ∃ p, m3 ++ itB hi5 = p := ⟨_, rfl⟩
                          have d_m4 := (cat_to (m := 3332000013) (n := 1000001) e_m4 z_m3.out zhi.out (by decide)).1
                          have z_m4 : Hid (m4.size ≤ 3333000014) := (cat_to (m := 3332000013) (n := 1000001) e_m4 z_m3.out zhi.out (by decide)).2
                          replace e_m4 := hid_mk e_m4
                          have hsb : spanB (lo, hi5) = itB lo ++ ((⟨#[46, 46]⟩ : ByteArray) ++ itB hi5) := if_pos (by dsimp only; omega)
                          have hf : Hid (m4 = p6 ++ jnB (⟨#[44]⟩ : ByteArray) ((sps.take (i + 1)).map spanB)) := by
                            rw [Hid, hnxM.out, hsb, ← e_m4.out, ← e_m3.out, ← e_m2.out]
                            apply ba_ext
                            simp
                          clear hsb
                          go_wp2_with fail
                          refine (Itoa_any lo _ s1 (by omega) (ht.out.to q6.out)).mono ?_
                          rintro e w5 ⟨rfl, hbN⟩
                          have hb7 := hid_mk (after (w := wy) hbN hb6.out).1
                          have q7 := hid_mk (after (w := w) hbN q6.out).1
                          have hS6 := hid_mk (hS5.out.keep hbN)
                          clear hbN
                          obtain ⟨t0, t1, t2⟩ := blk2z hS6.out
                          go_wp2_with fail
                          refine (Itoa_any hi5 _ (by omega) s3 (ht.out.to q7.out)).mono ?_
                          rintro e w6 ⟨rfl, hbN⟩
                          have hb8 := hid_mk (after (w := wy) hbN hb7.out).1
                          clear hbN t0 t1 t2
                          go_wp2
                          go_roundw
                          case rel => exact ⟨i + 1, m4, by go_num, by omega, rfl, hf, hb8⟩
                          case measure => simp [intOf]; omega
                      · have i2 : ¬ (0 : Int) < i := by omega
                        replace hnxM : Hid (p6 ++ jnB (⟨#[44]⟩ : ByteArray) ((sps.take (i + 1)).map spanB) = M ++ spanB (lo, hi5)) := by rw [Hid, hnxM.out, if_neg hi0]
                        obtain ⟨m2, e_m2⟩ : ∃ p, M ++ itB lo = p := ⟨_, rfl⟩
                        have d_m2 := (cat_to (m := 3331000009) (n := 1000001) e_m2 z_M.out zlo.out (by decide)).1
                        have z_m2 : Hid (m2.size ≤ 3332000010) := (cat_to (m := 3331000009) (n := 1000001) e_m2 z_M.out zlo.out (by decide)).2
                        replace e_m2 := hid_mk e_m2
                        by_cases hne : lo = hi5
                        · subst hne
                          have hf : Hid (m2 = p6 ++ jnB (⟨#[44]⟩ : ByteArray) ((sps.take (i + 1)).map spanB)) := by rw [Hid, hnxM.out, show spanB (lo, lo) = itB lo from if_neg (by simp), e_m2.out]
                          go_wp2_with fail
                          refine (Itoa_any lo _ s1 (by omega) (ht.out.to q6.out)).mono ?_
                          rintro e w5 ⟨rfl, hbN⟩
                          have hb7 := hid_mk (after (w := wy) hbN hb6.out).1
                          have hS6 := hid_mk (hS5.out.keep hbN)
                          clear hbN
                          obtain ⟨t0, t1, t2⟩ := blk2z hS6.out
                          go_wp2
                          go_roundw
                          case rel => exact ⟨i + 1, m2, by go_num, by omega, rfl, hf, hb7⟩
                          case measure => simp [intOf]; omega
                        · obtain ⟨m3, e_m3⟩ : ∃ p, m2 ++ (⟨#[46, 46]⟩ : ByteArray) = p := ⟨_, rfl⟩
                          have d_m3 := (cat_to (m := 3332000010) (n := 2) e_m3 z_m2.out (by decide) (by decide)).1
                          have z_m3 : Hid (m3.size ≤ 3332000012) := (cat_to (m := 3332000010) (n := 2) e_m3 z_m2.out (by decide) (by decide)).2
                          replace e_m3 := hid_mk e_m3
                          obtain ⟨m4, e_m4⟩ : ∃ p, m3 ++ itB hi5 = p := ⟨_, rfl⟩
                          have d_m4 := (cat_to (m := 3332000012) (n := 1000001) e_m4 z_m3.out zhi.out (by decide)).1
                          have z_m4 : Hid (m4.size ≤ 3333000013) := (cat_to (m := 3332000012) (n := 1000001) e_m4 z_m3.out zhi.out (by decide)).2
                          replace e_m4 := hid_mk e_m4
                          have hsb : spanB (lo, hi5) = itB lo ++ ((⟨#[46, 46]⟩ : ByteArray) ++ itB hi5) := if_pos (by dsimp only; omega)
                          have hf : Hid (m4 = p6 ++ jnB (⟨#[44]⟩ : ByteArray) ((sps.take (i + 1)).map spanB)) := by
                            rw [Hid, hnxM.out, hsb, ← e_m4.out, ← e_m3.out, ← e_m2.out]
                            apply ba_ext
                            simp
                          clear hsb
                          go_wp2_with fail
                          refine (Itoa_any lo _ s1 (by omega) (ht.out.to q6.out)).mono ?_
                          rintro e w5 ⟨rfl, hbN⟩
                          have hb7 := hid_mk (after (w := wy) hbN hb6.out).1
                          have q7 := hid_mk (after (w := w) hbN q6.out).1
                          have hS6 := hid_mk (hS5.out.keep hbN)
                          clear hbN
                          obtain ⟨t0, t1, t2⟩ := blk2z hS6.out
                          go_wp2_with fail
                          refine (Itoa_any hi5 _ (by omega) s3 (ht.out.to q7.out)).mono ?_
                          rintro e w6 ⟨rfl, hbN⟩
                          have hb8 := hid_mk (after (w := wy) hbN hb7.out).1
                          clear hbN t0 t1 t2
                          go_wp2
                          go_roundw
                          case rel => exact ⟨i + 1, m4, by go_num, by omega, rfl, hf, hb8⟩
                          case measure => simp [intOf]; omega
                    · have hts : sps.take i = sps := List.take_of_length_le (by have := hxl.out; omega)
                      have hf : Hid (M = S ++ jnB (⟨#[32, 97, 110, 100, 32]⟩ : ByteArray) ((r.take (j + 1)).map relB)) := by rw [Hid, hnxT.out, hM.out, hts]; exact hp6.out
                      clear hts
                      go_wp2
                      go_roundw
                      case rel => exact ⟨j + 1, M, by go_num, by omega, rfl, hf, p4⟩
                      case measure => simp [intOf]; omega
                · obtain ⟨p6, e_p6⟩ : ∃ p, p5 ++ (⟨#[32, 33, 61, 32]⟩ : ByteArray) = p := ⟨_, rfl⟩
                  have d_p6 := (cat_to (m := 3301000005) (n := 4) e_p6 z_p5.out (by decide) (by decide)).1
                  have z_p6 : Hid (p6.size ≤ 3301000009) := (cat_to (m := 3301000005) (n := 4) e_p6 z_p5.out (by decide) (by decide)).2
                  replace e_p6 := hid_mk e_p6
                  have hp6 : Hid (p6 ++ jnB (⟨#[44]⟩ : ByteArray) (sps.map spanB) = T ++ relB ⟨mod, true, sps⟩) := by
                    have := relB_ref ⟨mod, true, sps⟩ T
                    dsimp only at this
                    rw [if_pos hpos, if_pos rfl, e_p3.out, e_p4.out, e_p5.out, e_p6.out] at this
                    exact this
                  go_wp2_with fail
                  refine (Itoa_any mod _ (by omega) (by omega) (ht.out.to qx.out)).mono ?_
                  rintro e wy ⟨rfl, hbN⟩
                  have hby := hid_mk (after (w := wo) hbN hbx.out).1
                  have qy := hid_mk (after (w := w) hbN qx.out).1
                  have hXy := hid_mk (hX.out.keep hbN)
                  have hSpy := hid_mk (hSpx.out.to hbN)
                  clear hbN hX hSpx hbx qx
                  obtain ⟨y0, y1, y2, y3⟩ := blk3z hXy.out
                  go_wp2_with fail
                  go_loopw [3, 52] (fun mv iv wr => ∃ (i : Nat) (M : ByteArray), iv = .int .i64 i ∧ i ≤ nx ∧ mv = .string M ∧ Hid (M = p6 ++ jnB (⟨#[44]⟩ : ByteArray) ((sps.take i).map spanB)) ∧ Hid (Below wy.heap.size wy wr)) (fun _ iv _ => nx - (intOf iv).toNat)
                  case atStart => exact ⟨0, p6, rfl, Nat.zero_le _, rfl, (app_nil _ _).symm, Below.refl _ _⟩
                  case round =>
                    obtain ⟨i, M, rfl, hi, rfl, hM, hb4⟩ := hrel
                    have q4 := hid_mk (after (w := w) hb4.out qy.out).1
                    have p4 := hid_mk (after (w := wo) hb4.out hby.out).1
                    clear y0 y1 y2 y3
                    obtain ⟨y0, y1, y2, y3⟩ := blk3z (hXy.out.keep hb4.out)
                    by_cases hli : i < nx
                    · obtain ⟨b5, o5, s, heq5, hbl5, hd5, g0, g1⟩ := (hSpy.out.to hb4.out).at_ hli
                      subst heq5
                      obtain ⟨s1, s2, s3⟩ := span_ok (hsps.out s (mem_drop' hd5.out))
                      have hnxM := hid_mk (snoc_to hd5.out hM.out)
                      obtain ⟨lo, hi5⟩ := s
                      dsimp only at *
                      have z_M : Hid (M.size ≤ 3331000009) := by rw [Hid, hM.out, ByteArray.size_append]; have := z_p6.out; have := spans_sz (k := i) hs10.out hsps.out; omega
                      have i0 : (0 : Int) ≤ i := by omega
                      have i1 : (i : Int) < nx := by omega
                      have qx5 : Below wr.heap.size wr (wr.alloc (.cells #[.int .i64 lo, .int .i64 hi5] 45)) := (Below.refl _ _).alloc (Nat.le_refl _) _
                      have hb6 := hid_mk (after (w := wy) qx5 hb4.out).1
                      have q6 := hid_mk (after (w := w) qx5 q4.out).1
                      have hS5 := hid_mk (Blk.new wr 45 #[.int .i64 lo, .int .i64 hi5])
                      clear qx5
                      have zlo : Hid ((itB lo).size ≤ 1000001) := it_len s1 (by omega)
                      have zhi : Hid ((itB hi5).size ≤ 1000001) := it_len (by omega) s3
                      replace hd5 := hid_mk hd5
                      by_cases hi0 : 0 < i
                      · obtain ⟨m1, e_m1⟩ : ∃ p, M ++ (⟨#[44]⟩ : ByteArray) = p := ⟨_, rfl⟩
                        have d_m1 := (cat_to (m := 3331000009) (n := 1) e_m1 z_M.out (by decide) (by decide)).1
                        have z_m1 : Hid (m1.size ≤ 3331000010) := (cat_to (m := 3331000009) (n := 1) e_m1 z_M.out (by decide) (by decide)).2
                        replace e_m1 := hid_mk e_m1
                        have i2 : (0 : Int) < i := by omega
                        replace hnxM : Hid (p6 ++ jnB (⟨#[44]⟩ : ByteArray) ((sps.take (i + 1)).map spanB) = m1 ++ spanB (lo, hi5)) := by rw [Hid, hnxM.out, if_pos hi0, e_m1.out]
                        obtain ⟨m2, e_m2⟩ : ∃ p, m1 ++ itB lo = p := ⟨_, rfl⟩
                        have d_m2 := (cat_to (m := 3331000010) (n := 1000001) e_m2 z_m1.out zlo.out (by decide)).1
                        have z_m2 : Hid (m2.size ≤ 3332000011) := (cat_to (m := 3331000010) (n := 1000001) e_m2 z_m1.out zlo.out (by decide)).2
                        replace e_m2 := hid_mk e_m2
                        by_cases hne : lo = hi5
                        · subst hne
                          have hf : Hid (m2 = p6 ++ jnB (⟨#[44]⟩ : ByteArray) ((sps.take (i + 1)).map spanB)) := by rw [Hid, hnxM.out, show spanB (lo, lo) = itB lo from if_neg (by simp), e_m2.out]
                          go_wp2_with fail
                          refine (Itoa_any lo _ s1 (by omega) (ht.out.to q6.out)).mono ?_
                          rintro e w5 ⟨rfl, hbN⟩
                          have hb7 := hid_mk (after (w := wy) hbN hb6.out).1
                          have hS6 := hid_mk (hS5.out.keep hbN)
                          clear hbN
                          obtain ⟨t0, t1, t2⟩ := blk2z hS6.out
                          go_wp2
                          go_roundw
                          case rel => exact ⟨i + 1, m2, by go_num, by omega, rfl, hf, hb7⟩
                          case measure => simp [intOf]; omega
                        · obtain ⟨m3, e_m3⟩ : ∃ p, m2 ++ (⟨#[46, 46]⟩ : ByteArray) = p := ⟨_, rfl⟩
                          have d_m3 := (cat_to (m := 3332000011) (n := 2) e_m3 z_m2.out (by decide) (by decide)).1
                          have z_m3 : Hid (m3.size ≤ 3332000013) := (cat_to (m := 3332000011) (n := 2) e_m3 z_m2.out (by decide) (by decide)).2
                          replace e_m3 := hid_mk e_m3
                          obtain ⟨m4, e_m4⟩ : ∃ p, m3 ++ itB hi5 = p := ⟨_, rfl⟩
                          have d_m4 := (cat_to (m := 3332000013) (n := 1000001) e_m4 z_m3.out zhi.out (by decide)).1
                          have z_m4 : Hid (m4.size ≤ 3333000014) := (cat_to (m := 3332000013) (n := 1000001) e_m4 z_m3.out zhi.out (by decide)).2
                          replace e_m4 := hid_mk e_m4
                          have hsb : spanB (lo, hi5) = itB lo ++ ((⟨#[46, 46]⟩ : ByteArray) ++ itB hi5) := if_pos (by dsimp only; omega)
                          have hf : Hid (m4 = p6 ++ jnB (⟨#[44]⟩ : ByteArray) ((sps.take (i + 1)).map spanB)) := by
                            rw [Hid, hnxM.out, hsb, ← e_m4.out, ← e_m3.out, ← e_m2.out]
                            apply ba_ext
                            simp
                          clear hsb
                          go_wp2_with fail
                          refine (Itoa_any lo _ s1 (by omega) (ht.out.to q6.out)).mono ?_
                          rintro e w5 ⟨rfl, hbN⟩
                          have hb7 := hid_mk (after (w := wy) hbN hb6.out).1
                          have q7 := hid_mk (after (w := w) hbN q6.out).1
                          have hS6 := hid_mk (hS5.out.keep hbN)
                          clear hbN
                          obtain ⟨t0, t1, t2⟩ := blk2z hS6.out
                          go_wp2_with fail
                          refine (Itoa_any hi5 _ (by omega) s3 (ht.out.to q7.out)).mono ?_
                          rintro e w6 ⟨rfl, hbN⟩
                          have hb8 := hid_mk (after (w := wy) hbN hb7.out).1
                          clear hbN t0 t1 t2
                          go_wp2
                          go_roundw
                          case rel => exact ⟨i + 1, m4, by go_num, by omega, rfl, hf, hb8⟩
                          case measure => simp [intOf]; omega
                      · have i2 : ¬ (0 : Int) < i := by omega
                        replace hnxM : Hid (p6 ++ jnB (⟨#[44]⟩ : ByteArray) ((sps.take (i + 1)).map spanB) = M ++ spanB (lo, hi5)) := by rw [Hid, hnxM.out, if_neg hi0]
                        obtain ⟨m2, e_m2⟩ : ∃ p, M ++ itB lo = p := ⟨_, rfl⟩
                        have d_m2 := (cat_to (m := 3331000009) (n := 1000001) e_m2 z_M.out zlo.out (by decide)).1
                        have z_m2 : Hid (m2.size ≤ 3332000010) := (cat_to (m := 3331000009) (n := 1000001) e_m2 z_M.out zlo.out (by decide)).2
                        replace e_m2 := hid_mk e_m2
                        by_cases hne : lo = hi5
                        · subst hne
                          have hf : Hid (m2 = p6 ++ jnB (⟨#[44]⟩ : ByteArray) ((sps.take (i + 1)).map spanB)) := by rw [Hid, hnxM.out, show spanB (lo, lo) = itB lo from if_neg (by simp), e_m2.out]
                          go_wp2_with fail
                          refine (Itoa_any lo _ s1 (by omega) (ht.out.to q6.out)).mono ?_
                          rintro e w5 ⟨rfl, hbN⟩
                          have hb7 := hid_mk (after (w := wy) hbN hb6.out).1
                          have hS6 := hid_mk (hS5.out.keep hbN)
                          clear hbN
                          obtain ⟨t0, t1, t2⟩ := blk2z hS6.out
                          go_wp2
                          go_roundw
                          case rel => exact ⟨i + 1, m2, by go_num, by omega, rfl, hf, hb7⟩
                          case measure => simp [intOf]; omega
                        · obtain ⟨m3, e_m3⟩ : ∃ p, m2 ++ (⟨#[46, 46]⟩ : ByteArray) = p := ⟨_, rfl⟩
                          have d_m3 := (cat_to (m := 3332000010) (n := 2) e_m3 z_m2.out (by decide) (by decide)).1
                          have z_m3 : Hid (m3.size ≤ 3332000012) := (cat_to (m := 3332000010) (n := 2) e_m3 z_m2.out (by decide) (by decide)).2
                          replace e_m3 := hid_mk e_m3
                          obtain ⟨m4, e_m4⟩ : ∃ p, m3 ++ itB hi5 = p := ⟨_, rfl⟩
                          have d_m4 := (cat_to (m := 3332000012) (n := 1000001) e_m4 z_m3.out zhi.out (by decide)).1
                          have z_m4 : Hid (m4.size ≤ 3333000013) := (cat_to (m := 3332000012) (n := 1000001) e_m4 z_m3.out zhi.out (by decide)).2
                          replace e_m4 := hid_mk e_m4
                          have hsb : spanB (lo, hi5) = itB lo ++ ((⟨#[46, 46]⟩ : ByteArray) ++ itB hi5) := if_pos (by dsimp only; omega)
                          have hf : Hid (m4 = p6 ++ jnB (⟨#[44]⟩ : ByteArray) ((sps.take (i + 1)).map spanB)) := by
                            rw [Hid, hnxM.out, hsb, ← e_m4.out, ← e_m3.out, ← e_m2.out]
                            apply ba_ext
                            simp
                          clear hsb
                          go_wp2_with fail
                          refine (Itoa_any lo _ s1 (by omega) (ht.out.to q6.out)).mono ?_
                          rintro e w5 ⟨rfl, hbN⟩
                          have hb7 := hid_mk (after (w := wy) hbN hb6.out).1
                          have q7 := hid_mk (after (w := w) hbN q6.out).1
                          have hS6 := hid_mk (hS5.out.keep hbN)
                          clear hbN
                          obtain ⟨t0, t1, t2⟩ := blk2z hS6.out
                          go_wp2_with fail
                          refine (Itoa_any hi5 _ (by omega) s3 (ht.out.to q7.out)).mono ?_
                          rintro e w6 ⟨rfl, hbN⟩
                          have hb8 := hid_mk (after (w := wy) hbN hb7.out).1
                          clear hbN t0 t1 t2
                          go_wp2
                          go_roundw
                          case rel => exact ⟨i + 1, m4, by go_num, by omega, rfl, hf, hb8⟩
                          case measure => simp [intOf]; omega
                    · have hts : sps.take i = sps := List.take_of_length_le (by have := hxl.out; omega)
                      have hf : Hid (M = S ++ jnB (⟨#[32, 97, 110, 100, 32]⟩ : ByteArray) ((r.take (j + 1)).map relB)) := by rw [Hid, hnxT.out, hM.out, hts]; exact hp6.out
                      clear hts
                      go_wp2
                      go_roundw
                      case rel => exact ⟨j + 1, M, by go_num, by omega, rfl, hf, p4⟩
                      case measure => simp [intOf]; omega
              · cases nt
                · obtain ⟨p6, e_p6⟩ : ∃ p, p3 ++ (⟨#[32, 61, 32]⟩ : ByteArray) = p := ⟨_, rfl⟩
                  have d_p6 := (cat_to (m := 3300000001) (n := 4) e_p6 z_p3.out (by decide) (by decide)).1
                  have z_p6 : Hid (p6.size ≤ 3300000005) := (cat_to (m := 3300000001) (n := 4) e_p6 z_p3.out (by decide) (by decide)).2
                  replace e_p6 := hid_mk e_p6
                  have hp6 : Hid (p6 ++ jnB (⟨#[44]⟩ : ByteArray) (sps.map spanB) = T ++ relB ⟨mod, false, sps⟩) := by
                    have := relB_ref ⟨mod, false, sps⟩ T
                    dsimp only at this
                    rw [if_neg hpos, if_neg (by simp), e_p3.out, e_p6.out] at this
                    exact this
                  go_wp2_with fail
                  obtain ⟨wy, hwy⟩ : ∃ wy, wr.alloc (.cells #[.int .i64 mod, .bool false, .slice Ax nx cx] 37) = wy := ⟨_, rfl⟩
                  rw [hwy] at hbx qx hX hSpx ⊢
                  clear hwy
                  have hby := hbx
                  have qy := qx
                  have hXy := hX
                  have hSpy := hSpx
                  clear hX hSpx hbx qx
                  obtain ⟨y0, y1, y2, y3⟩ := blk3z hXy.out
                  go_loopw [3, 52] (fun mv iv wr => ∃ (i : Nat) (M : ByteArray), iv = .int .i64 i ∧ i ≤ nx ∧ mv = .string M ∧ Hid (M = p6 ++ jnB (⟨#[44]⟩ : ByteArray) ((sps.take i).map spanB)) ∧ Hid (Below wy.heap.size wy wr)) (fun _ iv _ => nx - (intOf iv).toNat)
                  case atStart => exact ⟨0, p6, rfl, Nat.zero_le _, rfl, (app_nil _ _).symm, Below.refl _ _⟩
                  case round =>
                    obtain ⟨i, M, rfl, hi, rfl, hM, hb4⟩ := hrel
                    have q4 := hid_mk (after (w := w) hb4.out qy.out).1
                    have p4 := hid_mk (after (w := wo) hb4.out hby.out).1
                    clear y0 y1 y2 y3
                    obtain ⟨y0, y1, y2, y3⟩ := blk3z (hXy.out.keep hb4.out)
                    by_cases hli : i < nx
                    · obtain ⟨b5, o5, s, heq5, hbl5, hd5, g0, g1⟩ := (hSpy.out.to hb4.out).at_ hli
                      subst heq5
                      obtain ⟨s1, s2, s3⟩ := span_ok (hsps.out s (mem_drop' hd5.out))
                      have hnxM := hid_mk (snoc_to hd5.out hM.out)
                      obtain ⟨lo, hi5⟩ := s
                      dsimp only at *
                      have z_M : Hid (M.size ≤ 3330000005) := by rw [Hid, hM.out, ByteArray.size_append]; have := z_p6.out; have := spans_sz (k := i) hs10.out hsps.out; omega
                      have i0 : (0 : Int) ≤ i := by omega
                      have i1 : (i : Int) < nx := by omega
                      have qx5 : Below wr.heap.size wr (wr.alloc (.cells #[.int .i64 lo, .int .i64 hi5] 45)) := (Below.refl _ _).alloc (Nat.le_refl _) _
                      have hb6 := hid_mk (after (w := wy) qx5 hb4.out).1
                      have q6 := hid_mk (after (w := w) qx5 q4.out).1
                      have hS5 := hid_mk (Blk.new wr 45 #[.int .i64 lo, .int .i64 hi5])
                      clear qx5
                      have zlo : Hid ((itB lo).size ≤ 1000001) := it_len s1 (by omega)
                      have zhi : Hid ((itB hi5).size ≤ 1000001) := it_len (by omega) s3
                      replace hd5 := hid_mk hd5
                      by_cases hi0 : 0 < i
                      · obtain ⟨m1, e_m1⟩ : ∃ p, M ++ (⟨#[44]⟩ : ByteArray) = p := ⟨_, rfl⟩
                        have d_m1 := (cat_to (m := 3330000005) (n := 1) e_m1 z_M.out (by decide) (by decide)).1
                        have z_m1 : Hid (m1.size ≤ 3330000006) := (cat_to (m := 3330000005) (n := 1) e_m1 z_M.out (by decide) (by decide)).2
                        replace e_m1 := hid_mk e_m1
                        have i2 : (0 : Int) < i := by omega
                        replace hnxM : Hid (p6 ++ jnB (⟨#[44]⟩ : ByteArray) ((sps.take (i + 1)).map spanB) = m1 ++ spanB (lo, hi5)) := by rw [Hid, hnxM.out, if_pos hi0, e_m1.out]
                        obtain ⟨m2, e_m2⟩ : ∃ p, m1 ++ itB lo = p := ⟨_, rfl⟩
                        have d_m2 := (cat_to (m := 3330000006) (n := 1000001) e_m2 z_m1.out zlo.out (by decide)).1
                        have z_m2 : Hid (m2.size ≤ 3331000007) := (cat_to (m := 3330000006) (n := 1000001) e_m2 z_m1.out zlo.out (by decide)).2
                        replace e_m2 := hid_mk e_m2
                        by_cases hne : lo = hi5
                        · subst hne
                          have hf : Hid (m2 = p6 ++ jnB (⟨#[44]⟩ : ByteArray) ((sps.take (i + 1)).map spanB)) := by rw [Hid, hnxM.out, show spanB (lo, lo) = itB lo from if_neg (by simp), e_m2.out]
                          go_wp2_with fail
                          refine (Itoa_any lo _ s1 (by omega) (ht.out.to q6.out)).mono ?_
                          rintro e w5 ⟨rfl, hbN⟩
                          have hb7 := hid_mk (after (w := wy) hbN hb6.out).1
                          have hS6 := hid_mk (hS5.out.keep hbN)
                          clear hbN
                          obtain ⟨t0, t1, t2⟩ := blk2z hS6.out
                          go_wp2
                          go_roundw
                          case rel => exact ⟨i + 1, m2, by go_num, by omega, rfl, hf, hb7⟩
                          case measure => simp [intOf]; omega
                        · obtain ⟨m3, e_m3⟩ : ∃ p, m2 ++ (⟨#[46, 46]⟩ : ByteArray) = p := ⟨_, rfl⟩
                          have d_m3 := (cat_to (m := 3331000007) (n := 2) e_m3 z_m2.out (by decide) (by decide)).1
                          have z_m3 : Hid (m3.size ≤ 3331000009) := (cat_to (m := 3331000007) (n := 2) e_m3 z_m2.out (by decide) (by decide)).2
                          replace e_m3 := hid_mk e_m3
                          obtain ⟨m4, e_m4⟩ : ∃ p, m3 ++ itB hi5 = p := ⟨_, rfl⟩
                          have d_m4 := (cat_to (m := 3331000009) (n := 1000001) e_m4 z_m3.out zhi.out (by decide)).1
                          have z_m4 : Hid (m4.size ≤ 3332000010) := (cat_to (m := 3331000009) (n := 1000001) e_m4 z_m3.out zhi.out (by decide)).2
                          replace e_m4 := hid_mk e_m4
                          have hsb : spanB (lo, hi5) = itB lo ++ ((⟨#[46, 46]⟩ : ByteArray) ++ itB hi5) := if_pos (by dsimp only; omega)
                          have hf : Hid (m4 = p6 ++ jnB (⟨#[44]⟩ : ByteArray) ((sps.take (i + 1)).map spanB)) := by
                            rw [Hid, hnxM.out, hsb, ← e_m4.out, ← e_m3.out, ← e_m2.out]
                            apply ba_ext
                            simp
                          clear hsb
                          go_wp2_with fail
                          refine (Itoa_any lo _ s1 (by omega) (ht.out.to q6.out)).mono ?_
                          rintro e w5 ⟨rfl, hbN⟩
                          have hb7 := hid_mk (after (w := wy) hbN hb6.out).1
                          have q7 := hid_mk (after (w := w) hbN q6.out).1
                          have hS6 := hid_mk (hS5.out.keep hbN)
                          clear hbN
                          obtain ⟨t0, t1, t2⟩ := blk2z hS6.out
                          go_wp2_with fail
                          refine (Itoa_any hi5 _ (by omega) s3 (ht.out.to q7.out)).mono ?_
                          rintro e w6 ⟨rfl, hbN⟩
                          have hb8 := hid_mk (after (w := wy) hbN hb7.out).1
                          clear hbN t0 t1 t2
                          go_wp2
                          go_roundw
                          case rel => exact ⟨i + 1, m4, by go_num, by omega, rfl, hf, hb8⟩
                          case measure => simp [intOf]; omega
                      · have i2 : ¬ (0 : Int) < i := by omega
                        replace hnxM : Hid (p6 ++ jnB (⟨#[44]⟩ : ByteArray) ((sps.take (i + 1)).map spanB) = M ++ spanB (lo, hi5)) := by rw [Hid, hnxM.out, if_neg hi0]
                        obtain ⟨m2, e_m2⟩ : ∃ p, M ++ itB lo = p := ⟨_, rfl⟩
                        have d_m2 := (cat_to (m := 3330000005) (n := 1000001) e_m2 z_M.out zlo.out (by decide)).1
                        have z_m2 : Hid (m2.size ≤ 3331000006) := (cat_to (m := 3330000005) (n := 1000001) e_m2 z_M.out zlo.out (by decide)).2
                        replace e_m2 := hid_mk e_m2
                        by_cases hne : lo = hi5
                        · subst hne
                          have hf : Hid (m2 = p6 ++ jnB (⟨#[44]⟩ : ByteArray) ((sps.take (i + 1)).map spanB)) := by rw [Hid, hnxM.out, show spanB (lo, lo) = itB lo from if_neg (by simp), e_m2.out]
                          go_wp2_with fail
                          refine (Itoa_any lo _ s1 (by omega) (ht.out.to q6.out)).mono ?_
                          rintro e w5 ⟨rfl, hbN⟩
                          have hb7 := hid_mk (after (w := wy) hbN hb6.out).1
                          have hS6 := hid_mk (hS5.out.keep hbN)
                          clear hbN
                          obtain ⟨t0, t1, t2⟩ := blk2z hS6.out
                          go_wp2
                          go_roundw
                          case rel => exact ⟨i + 1, m2, by go_num, by omega, rfl, hf, hb7⟩
                          case measure => simp [intOf]; omega
                        · obtain ⟨m3, e_m3⟩ : ∃ p, m2 ++ (⟨#[46, 46]⟩ : ByteArray) = p := ⟨_, rfl⟩
                          have d_m3 := (cat_to (m := 3331000006) (n := 2) e_m3 z_m2.out (by decide) (by decide)).1
                          have z_m3 : Hid (m3.size ≤ 3331000008) := (cat_to (m := 3331000006) (n := 2) e_m3 z_m2.out (by decide) (by decide)).2
                          replace e_m3 := hid_mk e_m3
                          obtain ⟨m4, e_m4⟩ : ∃ p, m3 ++ itB hi5 = p := ⟨_, rfl⟩
                          have d_m4 := (cat_to (m := 3331000008) (n := 1000001) e_m4 z_m3.out zhi.out (by decide)).1
                          have z_m4 : Hid (m4.size ≤ 3332000009) := (cat_to (m := 3331000008) (n := 1000001) e_m4 z_m3.out zhi.out (by decide)).2
                          replace e_m4 := hid_mk e_m4
                          have hsb : spanB (lo, hi5) = itB lo ++ ((⟨#[46, 46]⟩ : ByteArray) ++ itB hi5) := if_pos (by dsimp only; omega)
                          have hf : Hid (m4 = p6 ++ jnB (⟨#[44]⟩ : ByteArray) ((sps.take (i + 1)).map spanB)) := by
                            rw [Hid, hnxM.out, hsb, ← e_m4.out, ← e_m3.out, ← e_m2.out]
                            apply ba_ext
                            simp
                          clear hsb
                          go_wp2_with fail
                          refine (Itoa_any lo _ s1 (by omega) (ht.out.to q6.out)).mono ?_
                          rintro e w5 ⟨rfl, hbN⟩
                          have hb7 := hid_mk (after (w := wy) hbN hb6.out).1
                          have q7 := hid_mk (after (w := w) hbN q6.out).1
                          have hS6 := hid_mk (hS5.out.keep hbN)
                          clear hbN
                          obtain ⟨t0, t1, t2⟩ := blk2z hS6.out
                          go_wp2_with fail
                          refine (Itoa_any hi5 _ (by omega) s3 (ht.out.to q7.out)).mono ?_
                          rintro e w6 ⟨rfl, hbN⟩
                          have hb8 := hid_mk (after (w := wy) hbN hb7.out).1
                          clear hbN t0 t1 t2
                          go_wp2
                          go_roundw
                          case rel => exact ⟨i + 1, m4, by go_num, by omega, rfl, hf, hb8⟩
                          case measure => simp [intOf]; omega
                    · have hts : sps.take i = sps := List.take_of_length_le (by have := hxl.out; omega)
                      have hf : Hid (M = S ++ jnB (⟨#[32, 97, 110, 100, 32]⟩ : ByteArray) ((r.take (j + 1)).map relB)) := by rw [Hid, hnxT.out, hM.out, hts]; exact hp6.out
                      clear hts
                      go_wp2
                      go_roundw
                      case rel => exact ⟨j + 1, M, by go_num, by omega, rfl, hf, p4⟩
                      case measure => simp [intOf]; omega
                · obtain ⟨p6, e_p6⟩ : ∃ p, p3 ++ (⟨#[32, 33, 61, 32]⟩ : ByteArray) = p := ⟨_, rfl⟩
                  have d_p6 := (cat_to (m := 3300000001) (n := 4) e_p6 z_p3.out (by decide) (by decide)).1
                  have z_p6 : Hid (p6.size ≤ 3300000005) := (cat_to (m := 3300000001) (n := 4) e_p6 z_p3.out (by decide) (by decide)).2
                  replace e_p6 := hid_mk e_p6
                  have hp6 : Hid (p6 ++ jnB (⟨#[44]⟩ : ByteArray) (sps.map spanB) = T ++ relB ⟨mod, true, sps⟩) := by
                    have := relB_ref ⟨mod, true, sps⟩ T
                    dsimp only at this
                    rw [if_neg hpos, if_pos rfl, e_p3.out, e_p6.out] at this
                    exact this
                  go_wp2_with fail
                  obtain ⟨wy, hwy⟩ : ∃ wy, wr.alloc (.cells #[.int .i64 mod, .bool true, .slice Ax nx cx] 37) = wy := ⟨_, rfl⟩
                  rw [hwy] at hbx qx hX hSpx ⊢
                  clear hwy
                  have hby := hbx
                  have qy := qx
                  have hXy := hX
                  have hSpy := hSpx
                  clear hX hSpx hbx qx
                  obtain ⟨y0, y1, y2, y3⟩ := blk3z hXy.out
                  go_loopw [3, 52] (fun mv iv wr => ∃ (i : Nat) (M : ByteArray), iv = .int .i64 i ∧ i ≤ nx ∧ mv = .string M ∧ Hid (M = p6 ++ jnB (⟨#[44]⟩ : ByteArray) ((sps.take i).map spanB)) ∧ Hid (Below wy.heap.size wy wr)) (fun _ iv _ => nx - (intOf iv).toNat)
                  case atStart => exact ⟨0, p6, rfl, Nat.zero_le _, rfl, (app_nil _ _).symm, Below.refl _ _⟩
                  case round =>
                    obtain ⟨i, M, rfl, hi, rfl, hM, hb4⟩ := hrel
                    have q4 := hid_mk (after (w := w) hb4.out qy.out).1
                    have p4 := hid_mk (after (w := wo) hb4.out hby.out).1
                    clear y0 y1 y2 y3
                    obtain ⟨y0, y1, y2, y3⟩ := blk3z (hXy.out.keep hb4.out)
                    by_cases hli : i < nx
                    · obtain ⟨b5, o5, s, heq5, hbl5, hd5, g0, g1⟩ := (hSpy.out.to hb4.out).at_ hli
                      subst heq5
                      obtain ⟨s1, s2, s3⟩ := span_ok (hsps.out s (mem_drop' hd5.out))
                      have hnxM := hid_mk (snoc_to hd5.out hM.out)
                      obtain ⟨lo, hi5⟩ := s
                      dsimp only at *
                      have z_M : Hid (M.size ≤ 3330000005) := by rw [Hid, hM.out, ByteArray.size_append]; have := z_p6.out; have := spans_sz (k := i) hs10.out hsps.out; omega
                      have i0 : (0 : Int) ≤ i := by omega
                      have i1 : (i : Int) < nx := by omega
                      have qx5 : Below wr.heap.size wr (wr.alloc (.cells #[.int .i64 lo, .int .i64 hi5] 45)) := (Below.refl _ _).alloc (Nat.le_refl _) _
                      have hb6 := hid_mk (after (w := wy) qx5 hb4.out).1
                      have q6 := hid_mk (after (w := w) qx5 q4.out).1
                      have hS5 := hid_mk (Blk.new wr 45 #[.int .i64 lo, .int .i64 hi5])
                      clear qx5
                      have zlo : Hid ((itB lo).size ≤ 1000001) := it_len s1 (by omega)
                      have zhi : Hid ((itB hi5).size ≤ 1000001) := it_len (by omega) s3
                      replace hd5 := hid_mk hd5
                      by_cases hi0 : 0 < i
                      · obtain ⟨m1, e_m1⟩ : ∃ p, M ++ (⟨#[44]⟩ : ByteArray) = p := ⟨_, rfl⟩
                        have d_m1 := (cat_to (m := 3330000005) (n := 1) e_m1 z_M.out (by decide) (by decide)).1
                        have z_m1 : Hid (m1.size ≤ 3330000006) := (cat_to (m := 3330000005) (n := 1) e_m1 z_M.out (by decide) (by decide)).2
                        replace e_m1 := hid_mk e_m1
                        have i2 : (0 : Int) < i := by omega
                        replace hnxM : Hid (p6 ++ jnB (⟨#[44]⟩ : ByteArray) ((sps.take (i + 1)).map spanB) = m1 ++ spanB (lo, hi5)) := by rw [Hid, hnxM.out, if_pos hi0, e_m1.out]
                        obtain ⟨m2, e_m2⟩ : ∃ p, m1 ++ itB lo = p := ⟨_, rfl⟩
                        have d_m2 := (cat_to (m := 3330000006) (n := 1000001) e_m2 z_m1.out zlo.out (by decide)).1
                        have z_m2 : Hid (m2.size ≤ 3331000007) := (cat_to (m := 3330000006) (n := 1000001) e_m2 z_m1.out zlo.out (by decide)).2
                        replace e_m2 := hid_mk e_m2
                        by_cases hne : lo = hi5
                        · subst hne
                          have hf : Hid (m2 = p6 ++ jnB (⟨#[44]⟩ : ByteArray) ((sps.take (i + 1)).map spanB)) := by rw [Hid, hnxM.out, show spanB (lo, lo) = itB lo from if_neg (by simp), e_m2.out]
                          go_wp2_with fail
                          refine (Itoa_any lo _ s1 (by omega) (ht.out.to q6.out)).mono ?_
                          rintro e w5 ⟨rfl, hbN⟩
                          have hb7 := hid_mk (after (w := wy) hbN hb6.out).1
                          have hS6 := hid_mk (hS5.out.keep hbN)
                          clear hbN
                          obtain ⟨t0, t1, t2⟩ := blk2z hS6.out
                          go_wp2
                          go_roundw
                          case rel => exact ⟨i + 1, m2, by go_num, by omega, rfl, hf, hb7⟩
                          case measure => simp [intOf]; omega
                        · obtain ⟨m3, e_m3⟩ : ∃ p, m2 ++ (⟨#[46, 46]⟩ : ByteArray) = p := ⟨_, rfl⟩
                          have d_m3 := (cat_to (m := 3331000007) (n := 2) e_m3 z_m2.out (by decide) (by decide)).1
                          have z_m3 : Hid (m3.size ≤ 3331000009) := (cat_to (m := 3331000007) (n := 2) e_m3 z_m2.out (by decide) (by decide)).2
                          replace e_m3 := hid_mk e_m3
                          obtain ⟨m4, e_m4⟩ : ∃ p, m3 ++ itB hi5 = p := ⟨_, rfl⟩
                          have d_m4 := (cat_to (m := 3331000009) (n := 1000001) e_m4 z_m3.out zhi.out (by decide)).1
                          have z_m4 : Hid (m4.size ≤ 3332000010) := (cat_to (m := 3331000009) (n := 1000001) e_m4 z_m3.out zhi.out (by decide)).2
                          replace e_m4 := hid_mk e_m4
                          have hsb : spanB (lo, hi5) = itB lo ++ ((⟨#[46, 46]⟩ : ByteArray) ++ itB hi5) := if_pos (by dsimp only; omega)
                          have hf : Hid (m4 = p6 ++ jnB (⟨#[44]⟩ : ByteArray) ((sps.take (i + 1)).map spanB)) := by
                            rw [Hid, hnxM.out, hsb, ← e_m4.out, ← e_m3.out, ← e_m2.out]
                            apply ba_ext
                            simp
                          clear hsb
                          go_wp2_with fail
                          refine (Itoa_any lo _ s1 (by omega) (ht.out.to q6.out)).mono ?_
                          rintro e w5 ⟨rfl, hbN⟩
                          have hb7 := hid_mk (after (w := wy) hbN hb6.out).1
                          have q7 := hid_mk (after (w := w) hbN q6.out).1
                          have hS6 := hid_mk (hS5.out.keep hbN)
                          clear hbN
                          obtain ⟨t0, t1, t2⟩ := blk2z hS6.out
                          go_wp2_with fail
                          refine (Itoa_any hi5 _ (by omega) s3 (ht.out.to q7.out)).mono ?_
                          rintro e w6 ⟨rfl, hbN⟩
                          have hb8 := hid_mk (after (w := wy) hbN hb7.out).1
                          clear hbN t0 t1 t2
                          go_wp2
                          go_roundw
                          case rel => exact ⟨i + 1, m4, by go_num, by omega, rfl, hf, hb8⟩
                          case measure => simp [intOf]; omega
                      · have i2 : ¬ (0 : Int) < i := by omega
                        replace hnxM : Hid (p6 ++ jnB (⟨#[44]⟩ : ByteArray) ((sps.take (i + 1)).map spanB) = M ++ spanB (lo, hi5)) := by rw [Hid, hnxM.out, if_neg hi0]
                        obtain ⟨m2, e_m2⟩ : ∃ p, M ++ itB lo = p := ⟨_, rfl⟩
                        have d_m2 := (cat_to (m := 3330000005) (n := 1000001) e_m2 z_M.out zlo.out (by decide)).1
                        have z_m2 : Hid (m2.size ≤ 3331000006) := (cat_to (m := 3330000005) (n := 1000001) e_m2 z_M.out zlo.out (by decide)).2
                        replace e_m2 := hid_mk e_m2
                        by_cases hne : lo = hi5
                        · subst hne
                          have hf : Hid (m2 = p6 ++ jnB (⟨#[44]⟩ : ByteArray) ((sps.take (i + 1)).map spanB)) := by rw [Hid, hnxM.out, show spanB (lo, lo) = itB lo from if_neg (by simp), e_m2.out]
                          go_wp2_with fail
                          refine (Itoa_any lo _ s1 (by omega) (ht.out.to q6.out)).mono ?_
                          rintro e w5 ⟨rfl, hbN⟩
                          have hb7 := hid_mk (after (w := wy) hbN hb6.out).1
                          have hS6 := hid_mk (hS5.out.keep hbN)
                          clear hbN
                          obtain ⟨t0, t1, t2⟩ := blk2z hS6.out
                          go_wp2
                          go_roundw
                          case rel => exact ⟨i + 1, m2, by go_num, by omega, rfl, hf, hb7⟩
                          case measure => simp [intOf]; omega
                        · obtain ⟨m3, e_m3⟩ : ∃ p, m2 ++ (⟨#[46, 46]⟩ : ByteArray) = p := ⟨_, rfl⟩
                          have d_m3 := (cat_to (m := 3331000006) (n := 2) e_m3 z_m2.out (by decide) (by decide)).1
                          have z_m3 : Hid (m3.size ≤ 3331000008) := (cat_to (m := 3331000006) (n := 2) e_m3 z_m2.out (by decide) (by decide)).2
                          replace e_m3 := hid_mk e_m3
                          obtain ⟨m4, e_m4⟩ : ∃ p, m3 ++ itB hi5 = p := ⟨_, rfl⟩
                          have d_m4 := (cat_to (m := 3331000008) (n := 1000001) e_m4 z_m3.out zhi.out (by decide)).1
                          have z_m4 : Hid (m4.size ≤ 3332000009) := (cat_to (m := 3331000008) (n := 1000001) e_m4 z_m3.out zhi.out (by decide)).2
                          replace e_m4 := hid_mk e_m4
                          have hsb : spanB (lo, hi5) = itB lo ++ ((⟨#[46, 46]⟩ : ByteArray) ++ itB hi5) := if_pos (by dsimp only; omega)
                          have hf : Hid (m4 = p6 ++ jnB (⟨#[44]⟩ : ByteArray) ((sps.take (i + 1)).map spanB)) := by
                            rw [Hid, hnxM.out, hsb, ← e_m4.out, ← e_m3.out, ← e_m2.out]
                            apply ba_ext
                            simp
                          clear hsb
                          go_wp2_with fail
                          refine (Itoa_any lo _ s1 (by omega) (ht.out.to q6.out)).mono ?_
                          rintro e w5 ⟨rfl, hbN⟩
                          have hb7 := hid_mk (after (w := wy) hbN hb6.out).1
                          have q7 := hid_mk (after (w := w) hbN q6.out).1
                          have hS6 := hid_mk (hS5.out.keep hbN)
                          clear hbN
                          obtain ⟨t0, t1, t2⟩ := blk2z hS6.out
                          go_wp2_with fail
                          refine (Itoa_any hi5 _ (by omega) s3 (ht.out.to q7.out)).mono ?_
                          rintro e w6 ⟨rfl, hbN⟩
                          have hb8 := hid_mk (after (w := wy) hbN hb7.out).1
                          clear hbN t0 t1 t2
                          go_wp2
                          go_roundw
                          case rel => exact ⟨i + 1, m4, by go_num, by omega, rfl, hf, hb8⟩
                          case measure => simp [intOf]; omega
                    · have hts : sps.take i = sps := List.take_of_length_le (by have := hxl.out; omega)
                      have hf : Hid (M = S ++ jnB (⟨#[32, 97, 110, 100, 32]⟩ : ByteArray) ((r.take (j + 1)).map relB)) := by rw [Hid, hnxT.out, hM.out, hts]; exact hp6.out
                      clear hts
                      go_wp2
                      go_roundw
                      case rel => exact ⟨j + 1, M, by go_num, by omega, rfl, hf, p4⟩
                      case measure => simp [intOf]; omega
          · have hts : r.take j = r := List.take_of_length_le (by have := hnr.out; omega)
            have hf : Hid (T = jnB (⟨#[32, 111, 114, 32]⟩ : ByteArray) ((l.take (k + 1)).map rowB)) := by rw [Hid, hnx.out, hT.out, hts]; rfl
            clear hts
            go_wp2
            go_roundw
            case rel => exact ⟨k + 1, T, by go_num, by omega, rfl, hf, q2⟩
            case measure => simp [intOf]; omega
    · obtain rfl : k = n := by omega
      have hts : l.take k = l := List.take_of_length_le (by have := hlen.out; omega)
      have hf : S = V := by rw [hS.out, hts]; exact hV.out
      clear hts
      subst hf
      go_wp2
      refine ends_ret hQ (results_tmp rfl _ _ _) rfl ?_
      exact ⟨rfl, hb.out⟩
end Go.Proofs.YtfafinnklniniaaDoor
