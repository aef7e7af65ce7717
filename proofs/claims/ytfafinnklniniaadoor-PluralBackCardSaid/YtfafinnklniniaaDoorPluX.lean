/-
  WHAT IS PROVED HERE: a number's text, and a relation's, as plural.text hands them back. Condition: the variable internal/strconv.uint64pow10 holds the powers of ten.
-/
import Derived.Test.YtfafinnklniniaaDoorPlu3
import Derived.Test.YtfafinnklniniaaDoorOpenS
import Derived.Test.YtfafinnklniniaaDoorShelf
import Derived.Lib.AppendIntMem
import Derived.Lib.Join
import Derived.Laws.Concat
namespace Go.Proofs.YtfafinnklniniaaDoor
open Go.RowKit

/-- the library's table stands, now and behind any call that turns nothing -/
def Tab (w : World) : Prop := ∀ w', Below w.heap.size w w' → Lib.TabIs Tryd.prog w' "internal/strconv.uint64pow10" .u64 Lib.pow10Tab
theorem Tab.to {w w' : World} (h : Tab w) (hb : Below w.heap.size w w') : Tab w' := fun x hx => h x (hb.trans (hx.mono hb.size))
theorem tab_of {w : World} (h : Lib.TabIs Tryd.prog w "internal/strconv.uint64pow10" .u64 Lib.pow10Tab) : Tab w := by
  intro w' hb
  unfold Lib.TabIs World.var? at *
  cases hg : (Tryd.prog.globalNamed "internal/strconv.uint64pow10") with
  | none => rw [hg] at h; cases h
  | some g =>
    rw [hg] at h
    simp only [Option.bind_some] at h ⊢
    have hlt : g < w.heap.size := by
      rcases Nat.lt_or_ge g w.heap.size with hlt | hge
      · exact hlt
      · rw [Array.getElem?_eq_none hge] at h; cases h
    rw [hb.block g hlt]
    exact h
def itB (n : Int) : ByteArray := ⟨(Lib.itoa n).toArray⟩
def spanB (s : Int × Int) : ByteArray := if s.1 < s.2 then itB s.1 ++ ((⟨#[46, 46]⟩ : ByteArray) ++ itB s.2) else itB s.1
def jnB (sep : ByteArray) (l : List ByteArray) : ByteArray := ⟨(Lib.join (l.map (·.data.toList)) sep.data.toList).toArray⟩
def headB (mod : Int) (nt : Bool) : ByteArray := (if 0 < mod then (⟨#[105]⟩ : ByteArray) ++ ((⟨#[32, 37, 32]⟩ : ByteArray) ++ itB mod) else ⟨#[105]⟩) ++ (if nt then (⟨#[32, 33]⟩ : ByteArray) else ⟨#[32]⟩)
def relB (x : Rl) : ByteArray := (headB x.mod x.not ++ (⟨#[61, 32]⟩ : ByteArray)) ++ jnB ⟨#[44]⟩ (x.spans.map spanB)
theorem dec_len : ∀ u : Nat, (Lib.decDigits u).length ≤ u + 1 := by
  intro u
  induction u using Nat.strongRecOn with
  | _ u ih =>
    rw [Lib.decDigits]
    split
    · simp
    · have := ih (u / 10) (by omega)
      rw [List.length_append, List.length_singleton]
      omega
theorem ba_size (l : List UInt8) : (⟨l.toArray⟩ : ByteArray).size = l.length := by simp [ByteArray.size]
theorem it_len {n : Int} (h0 : 0 ≤ n) (h1 : n ≤ 1000000) : (itB n).size ≤ 1000001 := by
  unfold itB
  rw [ba_size]
  unfold Lib.itoa
  rw [if_neg (by omega)]
  have := dec_len n.toNat
  omega
theorem span_len {s : Int × Int} (h : spanOk s = true) : (spanB s).size ≤ 2000004 := by
  obtain ⟨h1, h2, h3⟩ := span_ok h
  have a := it_len h1 (by omega)
  have b := it_len (n := s.2) (by omega) h3
  unfold spanB
  split
  · rw [ByteArray.size_append, ByteArray.size_append]
    have : (⟨#[46, 46]⟩ : ByteArray).size = 2 := rfl
    omega
  · omega
theorem lens_le (M : Nat) : ∀ l : List (List UInt8), (∀ p ∈ l, p.length ≤ M) → Lib.lens l ≤ l.length * M
  | [], _ => by simp [Lib.lens]
  | x :: r, h => by
    have ih := lens_le M r (fun p hp => h p (List.mem_cons_of_mem _ hp))
    have hx := h x (List.mem_cons_self ..)
    unfold Lib.lens at *
    rw [List.map_cons, List.sum_cons, List.length_cons, Nat.succ_mul]
    omega
theorem jn_len {sep : ByteArray} {l : List ByteArray} (M : Nat) (h : ∀ p ∈ l, p.size ≤ M) : (Lib.join (l.map (·.data.toList)) sep.data.toList).length ≤ l.length * M + sep.size * l.length := by
  cases l with
  | nil => simp [Lib.join_nil]
  | cons x r =>
    rw [List.map_cons, Lib.join_length]
    have h2 := lens_le M ((x :: r).map (·.data.toList)) (by
      intro p hp
      obtain ⟨b, hb, rfl⟩ := List.mem_map.1 hp
      exact h b hb)
    rw [List.map_cons, List.length_cons, List.length_map] at h2
    have h3 : sep.data.toList.length = sep.size := rfl
    rw [h3, List.length_map, List.length_cons]
    have h4 := Nat.mul_le_mul_left sep.size (Nat.le_succ r.length)
    exact Nat.le_trans (Nat.add_le_add h4 h2) (Nat.le_of_eq (Nat.add_comm _ _))
theorem cat_ok (a b : ByteArray) (h : a.size + b.size ≤ 9223372036854775807) : ∀ w : World, (Op.stringOp .add a b).run Tryd.prog w = .ok (.string (a ++ b)) w := fun w => run_string_add_sum w a b h
theorem jn_size (sep : ByteArray) (l : List ByteArray) : (jnB sep l).size = (Lib.join (l.map (·.data.toList)) sep.data.toList).length := ba_size _
theorem Itoa_any (n : Int) (w : World) (h0 : 0 ≤ n) (h1 : n ≤ 1000000) (ht : Tab w) : Calls Tryd.prog 20 #[.int .i64 n] w fun e w' => e = .returned (.string (itB n)) ∧ Below w.heap.size w w' := by
  refine (Tryd.strconv_Itoa n (by omega) (by omega) w (ht w (Below.refl _ _))).mono ?_
  rintro e w' ⟨rfl, k, os, rfl⟩
  exact ⟨rfl, Lib.below_grow _ w (Nat.le_refl _) k os⟩
theorem strJ : (Tryd.prog.info? 9).map (fun i => (i.zero, i.size, i.bytes)) = some (some (.string ⟨#[]⟩), 1, 16) := by kernel_rfl
theorem info_partsN {P : Program} {t : TypeId} {z : Value} {b : Nat} (h : (P.info? t).map (fun i => (i.zero, i.size, i.bytes)) = some (some z, 1, b)) : ∃ i, P.info? t = some i ∧ i.zero = some z ∧ i.size = 1 ∧ i.bytes = b := by
  cases hi : P.info? t with
  | none => rw [hi] at h; simp at h
  | some i => rw [hi] at h; simp at h; exact ⟨i, rfl, h.1, h.2.1, h.2.2⟩
theorem vstr_one (xs : List ByteArray) : ∀ u ∈ xs.map vstr, u.oneCell' = true := by
  intro u hu
  obtain ⟨x, _, rfl⟩ := List.mem_map.1 hu
  rfl
theorem take_snoc {α : Type} {xs : List α} {k : Nat} {y : α} (hd : xs.drop k = y :: xs.drop (k + 1)) : xs.take (k + 1) = xs.take k ++ [y] := by
  have hk : k < xs.length := by
    rcases Nat.lt_or_ge k xs.length with h' | h'
    · exact h'
    · rw [List.drop_eq_nil_of_le h'] at hd; cases hd
  have h2 : xs[k]'hk = y := by rw [List.drop_eq_getElem_cons hk] at hd; injection hd
  rw [List.take_succ_eq_append_getElem hk, h2]
theorem mem_drop' {α : Type} {l : List α} {k : Nat} {x : α} (h : l.drop k = x :: l.drop (k + 1)) : x ∈ l := List.mem_of_mem_drop (show x ∈ l.drop k by rw [h]; exact List.mem_cons_self ..)
theorem blk2t {w : World} {g : Nat} {t : TypeId} {a b : Value} (h : Blk w g t #[a, b]) : g < w.heap.size ∧ w.cell? ⟨g, 0, none⟩ = some a ∧ w.cell? ⟨g, 1, none⟩ = some b := ⟨h.lt, h.cell 0, h.cell 1⟩
set_option maxRecDepth 100000 in
set_option maxHeartbeats 6400000 in
theorem text_any (x : Rl) (v : Sl) (w : World) (B : Nat) (hok : relOk x = true) (h : Spans w B v.1 v.2.1 x.spans) (ht : Tab w) :
    Calls Tryd.prog 12 #[.agg #[.int .i64 x.mod, .bool x.not, slV v]] w fun e w' => e = .returned (.string (relB x)) ∧ Below w.heap.size w w' := by
  obtain ⟨A, n, c⟩ := v
  have hl10 : 1 ≤ x.spans.length ∧ x.spans.length ≤ 10 := by
    unfold relOk at hok
    simp only [Bool.and_eq_true, decide_eq_true_eq] at hok
    exact hok.1.2
  obtain ⟨hmod, hsps⟩ := rel_ok hok
  clear hok
  obtain ⟨mod, nt, sps⟩ := x
  unfold slV
  dsimp only at *
  have hlen := h.len
  have hn1 : 1 ≤ n := by omega
  have hn10 : n ≤ 10 := by omega
  obtain ⟨i0, hi0, hz0, hz1, hz2⟩ := info_partsN strJ
  obtain ⟨V, hV⟩ : ∃ V, relB ⟨mod, nt, sps⟩ = V := ⟨_, rfl⟩
  have hjl : Hid ((Lib.join ((sps.map spanB).map (·.data.toList)) (⟨#[44]⟩ : ByteArray).data.toList).length ≤ 140737488355328) := by
    have := jn_len (sep := ⟨#[44]⟩) (l := sps.map spanB) 2000004 (by
      intro p hp
      obtain ⟨s, hs, rfl⟩ := List.mem_map.1 hp
      exact span_len (hsps s hs))
    rw [List.length_map] at this
    have h1 : (⟨#[44]⟩ : ByteArray).size = 1 := rfl
    rw [h1] at this
    exact Nat.le_trans this (by omega)
  have hb1 : Below w.heap.size w (w.alloc (.cells #[.int .i64 mod, .bool nt, .slice A n c] 37)) := (Below.refl _ _).alloc (Nat.le_refl _) _
  have hX1 := hid_mk (Blk.new w 37 #[.int .i64 mod, .bool nt, .slice A n c])
  have hsl : Hid ((sps.map spanB).length = n) := by rw [Hid, List.length_map, hlen]
  replace ht := hid_mk ht
  replace hsps := hid_mk hsps
  replace h := hid_mk h
  rw [hV]
  clear hl10
  by_cases hpos : 0 < mod
  · have hm6 : mod ≤ 1000000 := by omega
    clear hmod
    cases nt
    · have z0 := it_len (n := mod) (by omega) hm6
      have z1 : (⟨#[32, 37, 32]⟩ : ByteArray).size = 3 := rfl
      have z2 : (⟨#[105]⟩ : ByteArray).size = 1 := rfl
      have z3 : (⟨#[32]⟩ : ByteArray).size ≤ 2 := by decide
      have z4 : (⟨#[61, 32]⟩ : ByteArray).size = 2 := rfl
      have d1 := cat_ok ⟨#[32, 37, 32]⟩ (itB mod) (by omega)
      have d2 := cat_ok ⟨#[105]⟩ ((⟨#[32, 37, 32]⟩ : ByteArray) ++ itB mod) (by rw [ByteArray.size_append]; omega)
      have d3 := cat_ok ((⟨#[105]⟩ : ByteArray) ++ ((⟨#[32, 37, 32]⟩ : ByteArray) ++ itB mod)) ⟨#[32]⟩ (by rw [ByteArray.size_append, ByteArray.size_append]; omega)
      have d4 := cat_ok ((⟨#[105]⟩ : ByteArray) ++ ((⟨#[32, 37, 32]⟩ : ByteArray) ++ itB mod) ++ ⟨#[32]⟩) ⟨#[61, 32]⟩ (by rw [ByteArray.size_append, ByteArray.size_append, ByteArray.size_append]; omega)
      have d5 := cat_ok ((⟨#[105]⟩ : ByteArray) ++ ((⟨#[32, 37, 32]⟩ : ByteArray) ++ itB mod) ++ ⟨#[32]⟩ ++ ⟨#[61, 32]⟩) (jnB ⟨#[44]⟩ (sps.map spanB)) (by rw [ByteArray.size_append, ByteArray.size_append, ByteArray.size_append, ByteArray.size_append, jn_size]; have := hjl.out; omega)
      clear z0 z1 z2 z3 z4
      refine calls_of_wpQ Tryd.func12 rfl ?_
      intro Q hQ
      simp only [Tryd.ntmps12, List.size_toArray, List.length_cons, List.length_nil, Nat.reduceAdd, Nat.reduceSub, Array.replicate_succ, Array.replicate_zero, List.push_toArray, List.append_toArray, List.nil_append, List.cons_append]
      go_wp2_with fail
      refine (Itoa_any mod _ (by omega) (by omega) (ht.out.to hb1)).mono ?_
      rintro e w2 ⟨rfl, hbN⟩
      replace hb1 := (after (w := w) hbN hb1).1
      replace hX1 := hid_mk (hX1.out.keep hbN)
      clear hbN
      obtain ⟨y0, y1, y2, y3⟩ := blk3 hX1.out
      go_wp2_with fail
      obtain ⟨wb, hwb⟩ : ∃ wb : World, wb = w2 := ⟨_, rfl⟩
      subst hwb
      clear y0 y1 y2 y3
      replace hb1 := hid_mk hb1
      go_loopw [4, 26] (fun ov iv wr => ∃ (k co : Nat) (Ao : Option Addr), iv = .int .i64 k ∧ k ≤ n ∧ ov = .slice Ao k co ∧ k ≤ co ∧ OwnM wr wb.heap.size 9 (.slice Ao k co) k (((sps.take k).map spanB).map vstr) ∧ Hid (Below wb.heap.size wb wr)) (fun _ iv _ => n - (intOf iv).toNat)
      case atStart => exact ⟨0, 0, none, rfl, Nat.zero_le _, rfl, Nat.le_refl _, OwnM.nil, hid_mk (Below.refl _ _)⟩
      case round =>
        obtain ⟨k, co, Ao, rfl, hk, rfl, hkc, hown, hb⟩ := hrel
        have q1 := hid_mk (after (w := w) hb.out hb1.out).1
        by_cases hlt : k < n
        · obtain ⟨b, o, s, heq, hbl, hd, c0, c1⟩ := (h.out.to q1.out).at_ hlt
          subst heq
          obtain ⟨s1, s2, s3⟩ := span_ok (hsps.out s (mem_drop' hd.out))
          obtain ⟨lo, hi⟩ := s
          dsimp only at *
          have hnx : Hid ((sps.take (k + 1)).map spanB = (sps.take k).map spanB ++ [spanB (lo, hi)]) := by rw [Hid, take_snoc hd.out]; simp
          have k0 : (0 : Int) ≤ k := by omega
          have k1 : (k : Int) < n := by omega
          have qx : Below wr.heap.size wr (wr.alloc (.cells #[.int .i64 lo, .int .i64 hi] 45)) := (Below.refl _ _).alloc (Nat.le_refl _) _
          have hb2 := hid_mk (after (w := wb) qx hb.out).1
          have q2 := hid_mk (after (w := w) qx q1.out).1
          have hS := hid_mk (Blk.new wr 45 #[.int .i64 lo, .int .i64 hi])
          have hown2 := hown.below qx
          replace hown2 := hid_mk hown2
          clear qx hown
          replace hd := hid_mk hd
          by_cases hlh : lo < hi
          · have hsb : Hid (itB lo ++ ((⟨#[46, 46]⟩ : ByteArray) ++ itB hi) = spanB (lo, hi)) := (if_pos hlh).symm
            have u1 := it_len s1 (by omega)
            have u2 := it_len (n := hi) (by omega) s3
            have u3 : (⟨#[46, 46]⟩ : ByteArray).size = 2 := rfl
            have e1 := cat_ok ⟨#[46, 46]⟩ (itB hi) (by omega)
            have e2 := cat_ok (itB lo) ((⟨#[46, 46]⟩ : ByteArray) ++ itB hi) (by rw [ByteArray.size_append]; omega)
            clear u1 u2 u3
            go_wp2_with fail
            refine (Itoa_any lo _ s1 (by omega) (ht.out.to q2.out)).mono ?_
            rintro e w4 ⟨rfl, hbN⟩
            have hb4 := hid_mk (after (w := wb) hbN hb2.out).1
            have q4 := hid_mk (after (w := w) hbN q2.out).1
            have hS4 := hid_mk (hS.out.keep hbN)
            have hown4 := hid_mk (hown2.out.below hbN)
            clear hbN hS hown2
            obtain ⟨t0, t1, t2⟩ := blk2t hS4.out
            go_wp2_with fail
            refine (Itoa_any hi _ (by omega) s3 (ht.out.to q4.out)).mono ?_
            rintro e w5 ⟨rfl, hbN⟩
            have hb5 := hid_mk (after (w := wb) hbN hb4.out).1
            have own5 := hown4.out.below hbN
            clear hbN hS4 hown4 t0 t1 t2
            go_wp2_with (at_builtin; refine wpl_append_new rfl (.tmp 44) (.tmp 46) 33 rfl 9 i0 _ 16 Tryd.underlying33 hi0 hz0 hz1 hz2 rfl hb5.out (.slice Ao k co) k _ rfl own5 ([itB lo ++ ((⟨#[46, 46]⟩ : ByteArray) ++ itB hi)].map vstr) 1 1 rfl _ rfl (by simp [Act.eval]) (vstr_one _) (by omega) (by omega) ?_; intro A5 c5 w6 hown5 hc5 q5 st hs5; rw [hsb.out, ← List.map_append, ← hnx.out] at hown5)
            go_roundw
            case rel => exact ⟨k + 1, c5, A5, by go_num, by omega, rfl, hc5, hown5, hid_mk q5⟩
            case measure => simp [intOf]; omega
          · have hsb : Hid (itB lo = spanB (lo, hi)) := (if_neg hlh).symm
            go_wp2_with fail
            refine (Itoa_any lo _ s1 (by omega) (ht.out.to q2.out)).mono ?_
            rintro e w4 ⟨rfl, hbN⟩
            have hb4 := hid_mk (after (w := wb) hbN hb2.out).1
            have hS4 := hid_mk (hS.out.keep hbN)
            have own4 := hown2.out.below hbN
            clear hbN hS hown2
            obtain ⟨t0, t1, t2⟩ := blk2t hS4.out
            go_wp2_with (at_builtin; refine wpl_append_new rfl (.tmp 44) (.tmp 46) 33 rfl 9 i0 _ 16 Tryd.underlying33 hi0 hz0 hz1 hz2 rfl hb4.out (.slice Ao k co) k _ rfl own4 ([itB lo].map vstr) 1 1 rfl _ rfl (by simp [Act.eval]) (vstr_one _) (by omega) (by omega) ?_; intro A5 c5 w6 hown5 hc5 q5 st hs5; rw [hsb.out, ← List.map_append, ← hnx.out] at hown5)
            go_roundw
            case rel => exact ⟨k + 1, c5, A5, by go_num, by omega, rfl, hc5, hown5, hid_mk q5⟩
            case measure => simp [intOf]; omega
        · obtain rfl : k = n := by omega
          have hts : sps.take k = sps := List.take_of_length_le (by omega)
          rw [hts] at hown
          obtain ⟨g, rfl, hgl, hcs⟩ := hown.row (by omega)
          have hcs2 : Hid (∀ (j : Nat) (y : ByteArray), (sps.map spanB)[j]? = some y → wr.cell? ⟨g, 0 + j, none⟩ = some (.string y)) := by
            intro j y hy
            rw [Nat.zero_add]
            exact hcs j _ (by rw [List.getElem?_map, hy]; rfl)
          clear hcs
          replace hts := hid_mk hts
          have hfin : Hid ((((⟨#[105]⟩ : ByteArray) ++ ((⟨#[32, 37, 32]⟩ : ByteArray) ++ itB mod)) ++ (⟨#[32]⟩ : ByteArray)) ++ (⟨#[61, 32]⟩ : ByteArray) ++ jnB ⟨#[44]⟩ (sps.map spanB) = V) := by rw [Hid, ← hV]; unfold relB headB; dsimp only; rw [if_pos hpos]; rfl
          replace hV := hid_mk hV
          go_wp2_with fail
          rw [← hsl.out]
          refine (Tryd.strings_Join g 0 co (sps.map spanB) ⟨#[44]⟩ _ hcs2.out hgl (by rw [hsl.out]; omega) (by rw [hsl.out]; omega) hjl.out).mono ?_
          rw [show (⟨(Lib.join ((sps.map spanB).map (·.data.toList)) (⟨#[44]⟩ : ByteArray).data.toList).toArray⟩ : ByteArray) = jnB ⟨#[44]⟩ (sps.map spanB) from rfl]
          rintro e w3 ⟨rfl, hb3⟩
          have q3 := hid_mk (after (w := w) hb3 q1.out).1
          go_wp2
          refine ends_ret hQ (results_tmp rfl _ _ _) rfl ?_
          exact ⟨by rw [← hfin.out]; rfl, q3.out⟩
    · have z0 := it_len (n := mod) (by omega) hm6
      have z1 : (⟨#[32, 37, 32]⟩ : ByteArray).size = 3 := rfl
      have z2 : (⟨#[105]⟩ : ByteArray).size = 1 := rfl
      have z3 : (⟨#[32, 33]⟩ : ByteArray).size ≤ 2 := by decide
      have z4 : (⟨#[61, 32]⟩ : ByteArray).size = 2 := rfl
      have d1 := cat_ok ⟨#[32, 37, 32]⟩ (itB mod) (by omega)
      have d2 := cat_ok ⟨#[105]⟩ ((⟨#[32, 37, 32]⟩ : ByteArray) ++ itB mod) (by rw [ByteArray.size_append]; omega)
      have d3 := cat_ok ((⟨#[105]⟩ : ByteArray) ++ ((⟨#[32, 37, 32]⟩ : ByteArray) ++ itB mod)) ⟨#[32, 33]⟩ (by rw [ByteArray.size_append, ByteArray.size_append]; omega)
      have d4 := cat_ok ((⟨#[105]⟩ : ByteArray) ++ ((⟨#[32, 37, 32]⟩ : ByteArray) ++ itB mod) ++ ⟨#[32, 33]⟩) ⟨#[61, 32]⟩ (by rw [ByteArray.size_append, ByteArray.size_append, ByteArray.size_append]; omega)
      have d5 := cat_ok ((⟨#[105]⟩ : ByteArray) ++ ((⟨#[32, 37, 32]⟩ : ByteArray) ++ itB mod) ++ ⟨#[32, 33]⟩ ++ ⟨#[61, 32]⟩) (jnB ⟨#[44]⟩ (sps.map spanB)) (by rw [ByteArray.size_append, ByteArray.size_append, ByteArray.size_append, ByteArray.size_append, jn_size]; have := hjl.out; omega)
      clear z0 z1 z2 z3 z4
      refine calls_of_wpQ Tryd.func12 rfl ?_
      intro Q hQ
      simp only [Tryd.ntmps12, List.size_toArray, List.length_cons, List.length_nil, Nat.reduceAdd, Nat.reduceSub, Array.replicate_succ, Array.replicate_zero, List.push_toArray, List.append_toArray, List.nil_append, List.cons_append]
      go_wp2_with fail
      refine (Itoa_any mod _ (by omega) (by omega) (ht.out.to hb1)).mono ?_
      rintro e w2 ⟨rfl, hbN⟩
      replace hb1 := (after (w := w) hbN hb1).1
      replace hX1 := hid_mk (hX1.out.keep hbN)
      clear hbN
      obtain ⟨y0, y1, y2, y3⟩ := blk3 hX1.out
      go_wp2_with fail
      obtain ⟨wb, hwb⟩ : ∃ wb : World, wb = w2 := ⟨_, rfl⟩
      subst hwb
      clear y0 y1 y2 y3
      replace hb1 := hid_mk hb1
      go_loopw [4, 26] (fun ov iv wr => ∃ (k co : Nat) (Ao : Option Addr), iv = .int .i64 k ∧ k ≤ n ∧ ov = .slice Ao k co ∧ k ≤ co ∧ OwnM wr wb.heap.size 9 (.slice Ao k co) k (((sps.take k).map spanB).map vstr) ∧ Hid (Below wb.heap.size wb wr)) (fun _ iv _ => n - (intOf iv).toNat)
      case atStart => exact ⟨0, 0, none, rfl, Nat.zero_le _, rfl, Nat.le_refl _, OwnM.nil, hid_mk (Below.refl _ _)⟩
      case round =>
        obtain ⟨k, co, Ao, rfl, hk, rfl, hkc, hown, hb⟩ := hrel
        have q1 := hid_mk (after (w := w) hb.out hb1.out).1
        by_cases hlt : k < n
        · obtain ⟨b, o, s, heq, hbl, hd, c0, c1⟩ := (h.out.to q1.out).at_ hlt
          subst heq
          obtain ⟨s1, s2, s3⟩ := span_ok (hsps.out s (mem_drop' hd.out))
          obtain ⟨lo, hi⟩ := s
          dsimp only at *
          have hnx : Hid ((sps.take (k + 1)).map spanB = (sps.take k).map spanB ++ [spanB (lo, hi)]) := by rw [Hid, take_snoc hd.out]; simp
          have k0 : (0 : Int) ≤ k := by omega
          have k1 : (k : Int) < n := by omega
          have qx : Below wr.heap.size wr (wr.alloc (.cells #[.int .i64 lo, .int .i64 hi] 45)) := (Below.refl _ _).alloc (Nat.le_refl _) _
          have hb2 := hid_mk (after (w := wb) qx hb.out).1
          have q2 := hid_mk (after (w := w) qx q1.out).1
          have hS := hid_mk (Blk.new wr 45 #[.int .i64 lo, .int .i64 hi])
          have hown2 := hown.below qx
          replace hown2 := hid_mk hown2
          clear qx hown
          replace hd := hid_mk hd
          by_cases hlh : lo < hi
          · have hsb : Hid (itB lo ++ ((⟨#[46, 46]⟩ : ByteArray) ++ itB hi) = spanB (lo, hi)) := (if_pos hlh).symm
            have u1 := it_len s1 (by omega)
            have u2 := it_len (n := hi) (by omega) s3
            have u3 : (⟨#[46, 46]⟩ : ByteArray).size = 2 := rfl
            have e1 := cat_ok ⟨#[46, 46]⟩ (itB hi) (by omega)
            have e2 := cat_ok (itB lo) ((⟨#[46, 46]⟩ : ByteArray) ++ itB hi) (by rw [ByteArray.size_append]; omega)
            clear u1 u2 u3
            go_wp2_with fail
            refine (Itoa_any lo _ s1 (by omega) (ht.out.to q2.out)).mono ?_
            rintro e w4 ⟨rfl, hbN⟩
            have hb4 := hid_mk (after (w := wb) hbN hb2.out).1
            have q4 := hid_mk (after (w := w) hbN q2.out).1
            have hS4 := hid_mk (hS.out.keep hbN)
            have hown4 := hid_mk (hown2.out.below hbN)
            clear hbN hS hown2
            obtain ⟨t0, t1, t2⟩ := blk2t hS4.out
            go_wp2_with fail
            refine (Itoa_any hi _ (by omega) s3 (ht.out.to q4.out)).mono ?_
            rintro e w5 ⟨rfl, hbN⟩
            have hb5 := hid_mk (after (w := wb) hbN hb4.out).1
            have own5 := hown4.out.below hbN
            clear hbN hS4 hown4 t0 t1 t2
            go_wp2_with (at_builtin; refine wpl_append_new rfl (.tmp 44) (.tmp 46) 33 rfl 9 i0 _ 16 Tryd.underlying33 hi0 hz0 hz1 hz2 rfl hb5.out (.slice Ao k co) k _ rfl own5 ([itB lo ++ ((⟨#[46, 46]⟩ : ByteArray) ++ itB hi)].map vstr) 1 1 rfl _ rfl (by simp [Act.eval]) (vstr_one _) (by omega) (by omega) ?_; intro A5 c5 w6 hown5 hc5 q5 st hs5; rw [hsb.out, ← List.map_append, ← hnx.out] at hown5)
            go_roundw
            case rel => exact ⟨k + 1, c5, A5, by go_num, by omega, rfl, hc5, hown5, hid_mk q5⟩
            case measure => simp [intOf]; omega
          · have hsb : Hid (itB lo = spanB (lo, hi)) := (if_neg hlh).symm
            go_wp2_with fail
            refine (Itoa_any lo _ s1 (by omega) (ht.out.to q2.out)).mono ?_
            rintro e w4 ⟨rfl, hbN⟩
            have hb4 := hid_mk (after (w := wb) hbN hb2.out).1
            have hS4 := hid_mk (hS.out.keep hbN)
            have own4 := hown2.out.below hbN
            clear hbN hS hown2
            obtain ⟨t0, t1, t2⟩ := blk2t hS4.out
            go_wp2_with (at_builtin; refine wpl_append_new rfl (.tmp 44) (.tmp 46) 33 rfl 9 i0 _ 16 Tryd.underlying33 hi0 hz0 hz1 hz2 rfl hb4.out (.slice Ao k co) k _ rfl own4 ([itB lo].map vstr) 1 1 rfl _ rfl (by simp [Act.eval]) (vstr_one _) (by omega) (by omega) ?_; intro A5 c5 w6 hown5 hc5 q5 st hs5; rw [hsb.out, ← List.map_append, ← hnx.out] at hown5)
            go_roundw
            case rel => exact ⟨k + 1, c5, A5, by go_num, by omega, rfl, hc5, hown5, hid_mk q5⟩
            case measure => simp [intOf]; omega
        · obtain rfl : k = n := by omega
          have hts : sps.take k = sps := List.take_of_length_le (by omega)
          rw [hts] at hown
          obtain ⟨g, rfl, hgl, hcs⟩ := hown.row (by omega)
          have hcs2 : Hid (∀ (j : Nat) (y : ByteArray), (sps.map spanB)[j]? = some y → wr.cell? ⟨g, 0 + j, none⟩ = some (.string y)) := by
            intro j y hy
            rw [Nat.zero_add]
            exact hcs j _ (by rw [List.getElem?_map, hy]; rfl)
          clear hcs
          replace hts := hid_mk hts
          have hfin : Hid ((((⟨#[105]⟩ : ByteArray) ++ ((⟨#[32, 37, 32]⟩ : ByteArray) ++ itB mod)) ++ (⟨#[32, 33]⟩ : ByteArray)) ++ (⟨#[61, 32]⟩ : ByteArray) ++ jnB ⟨#[44]⟩ (sps.map spanB) = V) := by rw [Hid, ← hV]; unfold relB headB; dsimp only; rw [if_pos hpos]; rfl
          replace hV := hid_mk hV
          go_wp2_with fail
          rw [← hsl.out]
          refine (Tryd.strings_Join g 0 co (sps.map spanB) ⟨#[44]⟩ _ hcs2.out hgl (by rw [hsl.out]; omega) (by rw [hsl.out]; omega) hjl.out).mono ?_
          rw [show (⟨(Lib.join ((sps.map spanB).map (·.data.toList)) (⟨#[44]⟩ : ByteArray).data.toList).toArray⟩ : ByteArray) = jnB ⟨#[44]⟩ (sps.map spanB) from rfl]
          rintro e w3 ⟨rfl, hb3⟩
          have q3 := hid_mk (after (w := w) hb3 q1.out).1
          go_wp2
          refine ends_ret hQ (results_tmp rfl _ _ _) rfl ?_
          exact ⟨by rw [← hfin.out]; rfl, q3.out⟩
  · clear hmod
    cases nt
    · have z2 : (⟨#[105]⟩ : ByteArray).size = 1 := rfl
      have z3 : (⟨#[32]⟩ : ByteArray).size ≤ 2 := by decide
      have z4 : (⟨#[61, 32]⟩ : ByteArray).size = 2 := rfl
      have d3 := cat_ok ⟨#[105]⟩ ⟨#[32]⟩ (by omega)
      have d4 := cat_ok ((⟨#[105]⟩ : ByteArray) ++ ⟨#[32]⟩) ⟨#[61, 32]⟩ (by rw [ByteArray.size_append]; omega)
      have d5 := cat_ok ((⟨#[105]⟩ : ByteArray) ++ ⟨#[32]⟩ ++ ⟨#[61, 32]⟩) (jnB ⟨#[44]⟩ (sps.map spanB)) (by rw [ByteArray.size_append, ByteArray.size_append, jn_size]; have := hjl.out; omega)
      clear z2 z3 z4
      refine calls_of_wpQ Tryd.func12 rfl ?_
      intro Q hQ
      simp only [Tryd.ntmps12, List.size_toArray, List.length_cons, List.length_nil, Nat.reduceAdd, Nat.reduceSub, Array.replicate_succ, Array.replicate_zero, List.push_toArray, List.append_toArray, List.nil_append, List.cons_append]
      go_wp2_with fail
      obtain ⟨wb, hwb⟩ : ∃ wb, w.alloc (.cells #[.int .i64 mod, .bool false, .slice A n c] 37) = wb := ⟨_, rfl⟩
      rw [hwb] at hb1 hX1 ⊢
      clear hwb
      replace hb1 := hid_mk hb1
      go_loopw [4, 26] (fun ov iv wr => ∃ (k co : Nat) (Ao : Option Addr), iv = .int .i64 k ∧ k ≤ n ∧ ov = .slice Ao k co ∧ k ≤ co ∧ OwnM wr wb.heap.size 9 (.slice Ao k co) k (((sps.take k).map spanB).map vstr) ∧ Hid (Below wb.heap.size wb wr)) (fun _ iv _ => n - (intOf iv).toNat)
      case atStart => exact ⟨0, 0, none, rfl, Nat.zero_le _, rfl, Nat.le_refl _, OwnM.nil, hid_mk (Below.refl _ _)⟩
      case round =>
        obtain ⟨k, co, Ao, rfl, hk, rfl, hkc, hown, hb⟩ := hrel
        have q1 := hid_mk (after (w := w) hb.out hb1.out).1
        by_cases hlt : k < n
        · obtain ⟨b, o, s, heq, hbl, hd, c0, c1⟩ := (h.out.to q1.out).at_ hlt
          subst heq
          obtain ⟨s1, s2, s3⟩ := span_ok (hsps.out s (mem_drop' hd.out))
          obtain ⟨lo, hi⟩ := s
          dsimp only at *
          have hnx : Hid ((sps.take (k + 1)).map spanB = (sps.take k).map spanB ++ [spanB (lo, hi)]) := by rw [Hid, take_snoc hd.out]; simp
          have k0 : (0 : Int) ≤ k := by omega
          have k1 : (k : Int) < n := by omega
          have qx : Below wr.heap.size wr (wr.alloc (.cells #[.int .i64 lo, .int .i64 hi] 45)) := (Below.refl _ _).alloc (Nat.le_refl _) _
          have hb2 := hid_mk (after (w := wb) qx hb.out).1
          have q2 := hid_mk (after (w := w) qx q1.out).1
          have hS := hid_mk (Blk.new wr 45 #[.int .i64 lo, .int .i64 hi])
          have hown2 := hown.below qx
          replace hown2 := hid_mk hown2
          clear qx hown
          replace hd := hid_mk hd
          by_cases hlh : lo < hi
          · have hsb : Hid (itB lo ++ ((⟨#[46, 46]⟩ : ByteArray) ++ itB hi) = spanB (lo, hi)) := (if_pos hlh).symm
            have u1 := it_len s1 (by omega)
            have u2 := it_len (n := hi) (by omega) s3
            have u3 : (⟨#[46, 46]⟩ : ByteArray).size = 2 := rfl
            have e1 := cat_ok ⟨#[46, 46]⟩ (itB hi) (by omega)
            have e2 := cat_ok (itB lo) ((⟨#[46, 46]⟩ : ByteArray) ++ itB hi) (by rw [ByteArray.size_append]; omega)
            clear u1 u2 u3
            go_wp2_with fail
            refine (Itoa_any lo _ s1 (by omega) (ht.out.to q2.out)).mono ?_
            rintro e w4 ⟨rfl, hbN⟩
            have hb4 := hid_mk (after (w := wb) hbN hb2.out).1
            have q4 := hid_mk (after (w := w) hbN q2.out).1
            have hS4 := hid_mk (hS.out.keep hbN)
            have hown4 := hid_mk (hown2.out.below hbN)
            clear hbN hS hown2
            obtain ⟨t0, t1, t2⟩ := blk2t hS4.out
            go_wp2_with fail
            refine (Itoa_any hi _ (by omega) s3 (ht.out.to q4.out)).mono ?_
            rintro e w5 ⟨rfl, hbN⟩
            have hb5 := hid_mk (after (w := wb) hbN hb4.out).1
            have own5 := hown4.out.below hbN
            clear hbN hS4 hown4 t0 t1 t2
            go_wp2_with (at_builtin; refine wpl_append_new rfl (.tmp 44) (.tmp 46) 33 rfl 9 i0 _ 16 Tryd.underlying33 hi0 hz0 hz1 hz2 rfl hb5.out (.slice Ao k co) k _ rfl own5 ([itB lo ++ ((⟨#[46, 46]⟩ : ByteArray) ++ itB hi)].map vstr) 1 1 rfl _ rfl (by simp [Act.eval]) (vstr_one _) (by omega) (by omega) ?_; intro A5 c5 w6 hown5 hc5 q5 st hs5; rw [hsb.out, ← List.map_append, ← hnx.out] at hown5)
            go_roundw
            case rel => exact ⟨k + 1, c5, A5, by go_num, by omega, rfl, hc5, hown5, hid_mk q5⟩
            case measure => simp [intOf]; omega
          · have hsb : Hid (itB lo = spanB (lo, hi)) := (if_neg hlh).symm
            go_wp2_with fail
            refine (Itoa_any lo _ s1 (by omega) (ht.out.to q2.out)).mono ?_
            rintro e w4 ⟨rfl, hbN⟩
            have hb4 := hid_mk (after (w := wb) hbN hb2.out).1
            have hS4 := hid_mk (hS.out.keep hbN)
            have own4 := hown2.out.below hbN
            clear hbN hS hown2
            obtain ⟨t0, t1, t2⟩ := blk2t hS4.out
            go_wp2_with (at_builtin; refine wpl_append_new rfl (.tmp 44) (.tmp 46) 33 rfl 9 i0 _ 16 Tryd.underlying33 hi0 hz0 hz1 hz2 rfl hb4.out (.slice Ao k co) k _ rfl own4 ([itB lo].map vstr) 1 1 rfl _ rfl (by simp [Act.eval]) (vstr_one _) (by omega) (by omega) ?_; intro A5 c5 w6 hown5 hc5 q5 st hs5; rw [hsb.out, ← List.map_append, ← hnx.out] at hown5)
            go_roundw
            case rel => exact ⟨k + 1, c5, A5, by go_num, by omega, rfl, hc5, hown5, hid_mk q5⟩
            case measure => simp [intOf]; omega
        · obtain rfl : k = n := by omega
          have hts : sps.take k = sps := List.take_of_length_le (by omega)
          rw [hts] at hown
          obtain ⟨g, rfl, hgl, hcs⟩ := hown.row (by omega)
          have hcs2 : Hid (∀ (j : Nat) (y : ByteArray), (sps.map spanB)[j]? = some y → wr.cell? ⟨g, 0 + j, none⟩ = some (.string y)) := by
            intro j y hy
            rw [Nat.zero_add]
            exact hcs j _ (by rw [List.getElem?_map, hy]; rfl)
          clear hcs
          replace hts := hid_mk hts
          have hfin : Hid (((⟨#[105]⟩ : ByteArray) ++ (⟨#[32]⟩ : ByteArray)) ++ (⟨#[61, 32]⟩ : ByteArray) ++ jnB ⟨#[44]⟩ (sps.map spanB) = V) := by rw [Hid, ← hV]; unfold relB headB; dsimp only; rw [if_neg (by omega : ¬ 0 < mod)]; rfl
          replace hV := hid_mk hV
          go_wp2_with fail
          rw [← hsl.out]
          refine (Tryd.strings_Join g 0 co (sps.map spanB) ⟨#[44]⟩ _ hcs2.out hgl (by rw [hsl.out]; omega) (by rw [hsl.out]; omega) hjl.out).mono ?_
          rw [show (⟨(Lib.join ((sps.map spanB).map (·.data.toList)) (⟨#[44]⟩ : ByteArray).data.toList).toArray⟩ : ByteArray) = jnB ⟨#[44]⟩ (sps.map spanB) from rfl]
          rintro e w3 ⟨rfl, hb3⟩
          have q3 := hid_mk (after (w := w) hb3 q1.out).1
          go_wp2
          refine ends_ret hQ (results_tmp rfl _ _ _) rfl ?_
          exact ⟨by rw [← hfin.out]; rfl, q3.out⟩
    · have z2 : (⟨#[105]⟩ : ByteArray).size = 1 := rfl
      have z3 : (⟨#[32, 33]⟩ : ByteArray).size ≤ 2 := by decide
      have z4 : (⟨#[61, 32]⟩ : ByteArray).size = 2 := rfl
      have d3 := cat_ok ⟨#[105]⟩ ⟨#[32, 33]⟩ (by omega)
      have d4 := cat_ok ((⟨#[105]⟩ : ByteArray) ++ ⟨#[32, 33]⟩) ⟨#[61, 32]⟩ (by rw [ByteArray.size_append]; omega)
      have d5 := cat_ok ((⟨#[105]⟩ : ByteArray) ++ ⟨#[32, 33]⟩ ++ ⟨#[61, 32]⟩) (jnB ⟨#[44]⟩ (sps.map spanB)) (by rw [ByteArray.size_append, ByteArray.size_append, jn_size]; have := hjl.out; omega)
      clear z2 z3 z4
      refine calls_of_wpQ Tryd.func12 rfl ?_
      intro Q hQ
      simp only [Tryd.ntmps12, List.size_toArray, List.length_cons, List.length_nil, Nat.reduceAdd, Nat.reduceSub, Array.replicate_succ, Array.replicate_zero, List.push_toArray, List.append_toArray, List.nil_append, List.cons_append]
      go_wp2_with fail
      obtain ⟨wb, hwb⟩ : ∃ wb, w.alloc (.cells #[.int .i64 mod, .bool true, .slice A n c] 37) = wb := ⟨_, rfl⟩
      rw [hwb] at hb1 hX1 ⊢
      clear hwb
      replace hb1 := hid_mk hb1
      go_loopw [4, 26] (fun ov iv wr => ∃ (k co : Nat) (Ao : Option Addr), iv = .int .i64 k ∧ k ≤ n ∧ ov = .slice Ao k co ∧ k ≤ co ∧ OwnM wr wb.heap.size 9 (.slice Ao k co) k (((sps.take k).map spanB).map vstr) ∧ Hid (Below wb.heap.size wb wr)) (fun _ iv _ => n - (intOf iv).toNat)
      case atStart => exact ⟨0, 0, none, rfl, Nat.zero_le _, rfl, Nat.le_refl _, OwnM.nil, hid_mk (Below.refl _ _)⟩
      case round =>
        obtain ⟨k, co, Ao, rfl, hk, rfl, hkc, hown, hb⟩ := hrel
        have q1 := hid_mk (after (w := w) hb.out hb1.out).1
        by_cases hlt : k < n
        · obtain ⟨b, o, s, heq, hbl, hd, c0, c1⟩ := (h.out.to q1.out).at_ hlt
          subst heq
          obtain ⟨s1, s2, s3⟩ := span_ok (hsps.out s (mem_drop' hd.out))
          obtain ⟨lo, hi⟩ := s
          dsimp only at *
          have hnx : Hid ((sps.take (k + 1)).map spanB = (sps.take k).map spanB ++ [spanB (lo, hi)]) := by rw [Hid, take_snoc hd.out]; simp
          have k0 : (0 : Int) ≤ k := by omega
          have k1 : (k : Int) < n := by omega
          have qx : Below wr.heap.size wr (wr.alloc (.cells #[.int .i64 lo, .int .i64 hi] 45)) := (Below.refl _ _).alloc (Nat.le_refl _) _
          have hb2 := hid_mk (after (w := wb) qx hb.out).1
          have q2 := hid_mk (after (w := w) qx q1.out).1
          have hS := hid_mk (Blk.new wr 45 #[.int .i64 lo, .int .i64 hi])
          have hown2 := hown.below qx
          replace hown2 := hid_mk hown2
          clear qx hown
          replace hd := hid_mk hd
          by_cases hlh : lo < hi
          · have hsb : Hid (itB lo ++ ((⟨#[46, 46]⟩ : ByteArray) ++ itB hi) = spanB (lo, hi)) := (if_pos hlh).symm
            have u1 := it_len s1 (by omega)
            have u2 := it_len (n := hi) (by omega) s3
            have u3 : (⟨#[46, 46]⟩ : ByteArray).size = 2 := rfl
            have e1 := cat_ok ⟨#[46, 46]⟩ (itB hi) (by omega)
            have e2 := cat_ok (itB lo) ((⟨#[46, 46]⟩ : ByteArray) ++ itB hi) (by rw [ByteArray.size_append]; omega)
            clear u1 u2 u3
            go_wp2_with fail
            refine (Itoa_any lo _ s1 (by omega) (ht.out.to q2.out)).mono ?_
            rintro e w4 ⟨rfl, hbN⟩
            have hb4 := hid_mk (after (w := wb) hbN hb2.out).1
            have q4 := hid_mk (after (w := w) hbN q2.out).1
            have hS4 := hid_mk (hS.out.keep hbN)
            have hown4 := hid_mk (hown2.out.below hbN)
            clear hbN hS hown2
            obtain ⟨t0, t1, t2⟩ := blk2t hS4.out
            go_wp2_with fail
            refine (Itoa_any hi _ (by omega) s3 (ht.out.to q4.out)).mono ?_
            rintro e w5 ⟨rfl, hbN⟩
            have hb5 := hid_mk (after (w := wb) hbN hb4.out).1
            have own5 := hown4.out.below hbN
            clear hbN hS4 hown4 t0 t1 t2
            go_wp2_with (at_builtin; refine wpl_append_new rfl (.tmp 44) (.tmp 46) 33 rfl 9 i0 _ 16 Tryd.underlying33 hi0 hz0 hz1 hz2 rfl hb5.out (.slice Ao k co) k _ rfl own5 ([itB lo ++ ((⟨#[46, 46]⟩ : ByteArray) ++ itB hi)].map vstr) 1 1 rfl _ rfl (by simp [Act.eval]) (vstr_one _) (by omega) (by omega) ?_; intro A5 c5 w6 hown5 hc5 q5 st hs5; rw [hsb.out, ← List.map_append, ← hnx.out] at hown5)
            go_roundw
            case rel => exact ⟨k + 1, c5, A5, by go_num, by omega, rfl, hc5, hown5, hid_mk q5⟩
            case measure => simp [intOf]; omega
          · have hsb : Hid (itB lo = spanB (lo, hi)) := (if_neg hlh).symm
            go_wp2_with fail
            refine (Itoa_any lo _ s1 (by omega) (ht.out.to q2.out)).mono ?_
            rintro e w4 ⟨rfl, hbN⟩
            have hb4 := hid_mk (after (w := wb) hbN hb2.out).1
            have hS4 := hid_mk (hS.out.keep hbN)
            have own4 := hown2.out.below hbN
            clear hbN hS hown2
            obtain ⟨t0, t1, t2⟩ := blk2t hS4.out
            go_wp2_with (at_builtin; refine wpl_append_new rfl (.tmp 44) (.tmp 46) 33 rfl 9 i0 _ 16 Tryd.underlying33 hi0 hz0 hz1 hz2 rfl hb4.out (.slice Ao k co) k _ rfl own4 ([itB lo].map vstr) 1 1 rfl _ rfl (by simp [Act.eval]) (vstr_one _) (by omega) (by omega) ?_; intro A5 c5 w6 hown5 hc5 q5 st hs5; rw [hsb.out, ← List.map_append, ← hnx.out] at hown5)
            go_roundw
            case rel => exact ⟨k + 1, c5, A5, by go_num, by omega, rfl, hc5, hown5, hid_mk q5⟩
            case measure => simp [intOf]; omega
        · obtain rfl : k = n := by omega
          have hts : sps.take k = sps := List.take_of_length_le (by omega)
          rw [hts] at hown
          obtain ⟨g, rfl, hgl, hcs⟩ := hown.row (by omega)
          have hcs2 : Hid (∀ (j : Nat) (y : ByteArray), (sps.map spanB)[j]? = some y → wr.cell? ⟨g, 0 + j, none⟩ = some (.string y)) := by
            intro j y hy
            rw [Nat.zero_add]
            exact hcs j _ (by rw [List.getElem?_map, hy]; rfl)
          clear hcs
          replace hts := hid_mk hts
          have hfin : Hid (((⟨#[105]⟩ : ByteArray) ++ (⟨#[32, 33]⟩ : ByteArray)) ++ (⟨#[61, 32]⟩ : ByteArray) ++ jnB ⟨#[44]⟩ (sps.map spanB) = V) := by rw [Hid, ← hV]; unfold relB headB; dsimp only; rw [if_neg (by omega : ¬ 0 < mod)]; rfl
          replace hV := hid_mk hV
          go_wp2_with fail
          rw [← hsl.out]
          refine (Tryd.strings_Join g 0 co (sps.map spanB) ⟨#[44]⟩ _ hcs2.out hgl (by rw [hsl.out]; omega) (by rw [hsl.out]; omega) hjl.out).mono ?_
          rw [show (⟨(Lib.join ((sps.map spanB).map (·.data.toList)) (⟨#[44]⟩ : ByteArray).data.toList).toArray⟩ : ByteArray) = jnB ⟨#[44]⟩ (sps.map spanB) from rfl]
          rintro e w3 ⟨rfl, hb3⟩
          have q3 := hid_mk (after (w := w) hb3 q1.out).1
          go_wp2
          refine ends_ret hQ (results_tmp rfl _ _ _) rfl ?_
          exact ⟨by rw [← hfin.out]; rfl, q3.out⟩
end Go.Proofs.YtfafinnklniniaaDoor
