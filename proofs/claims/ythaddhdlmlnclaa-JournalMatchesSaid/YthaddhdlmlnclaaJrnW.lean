/-
  WHAT IS PROVED HERE: the walk of the law JournalMatches: it returns true and writes nothing that was there. Conditions: slices of at most 2^42 - 128 records.
-/
import Derived.Test.YthaddhdlmlnclaaJrnT
import Derived.Test.YthaddhdlmlnclaaJrnQ
import Derived.Test.YthaddhdlmlnclaaJrnV
import Derived.Deep.DeepAppendWide
import Derived.Deep.DeepCutAuto
namespace Go.Proofs.Ythaddhdlmlnclaa
open Go.RowKit

section
variable {P : Program} (w : World)
theorem run_append_wide (base : Nat) (t ty e : TypeId) (i : TypeInfo) (z : Value) (size bytes : Nat) (ht : P.underlying t = some (.slice e)) (hi : P.info? e = some i) (hz : i.zero = some z)
    (hsize : i.size = size) (hby : i.bytes = bytes) (hzs : z.cells.size = size) (hsz : 0 < size)
    (v : Value) (n : Nat) (xs : List Value) (hown : w.ownsRow base e size v n xs)
    (B : Nat) (A : Option Addr) (m c : Nat) (news : List Value) (hr : Reads w B e size A m news) (h1 : ∀ u ∈ news, u.oneCell' = true)
    (h63 : n + m ≤ maxLen) (hbytes : ((n + m) + (n + m) / 4 + 192) * bytes ≤ 281474976710656) (hbase : base ≤ w.heap.size) :
    ∃ v' w', (Builtin.append_ #[t, t] ty #[v, .slice A m c]).run P w = .ok v' w' ∧ w'.ownsRow base e size v' (n + m) (xs ++ news) ∧ w.grownBy w' v.ownBlock := by
  rcases A with _ | ad
  · have hm : m = 0 := by
      rcases Nat.eq_zero_or_pos m with h0 | h0
      · exact h0
      · obtain ⟨_, _, h, _⟩ := hr.2 h0
        cases h
    subst hm
    have hn : news = [] := List.eq_nil_of_length_eq_zero (by simpa using hr.1)
    subst hn
    exact ⟨v, w, run_append_of_nil w base t ty e i size ht hi v n xs hown c, by simpa using hown, World.grownBy.refl w _⟩
  · have hcells : ∀ j u, news[j]? = some u → w.cell? (ad.add j) = some u := fun j u hu => reads_cells hr ad rfl j u hu
    obtain ⟨v', w', hrun, h2, h3, _⟩ := run_append_own_wide (P := P) w base t ty e i z size bytes ht hi hz hsize hby hzs hsz v n xs hown ad m c news hr.1 hcells h1 h63 hbytes hbase
    exact ⟨v', w', hrun, h2, h3⟩
theorem wpList_append_wide {ops : Array Oper} {rest : List Oper} {o : Oper} {a : Act} {Q : Exit → Act → World → Prop} (hgd : o.guard = none) (s x : Operand) (t : TypeId)
    (ho : o.op = .call { callee := .builtin .append, args := #[s, x], argTypes := #[t, t] })
    (base : Nat) (e : TypeId) (i : TypeInfo) (z : Value) (size bytes : Nat) (ht : P.underlying t = some (.slice e)) (hi : P.info? e = some i) (hz : i.zero = some z)
    (hsize : i.size = size) (hby : i.bytes = bytes) (hzs : z.cells.size = size) (hsz : 0 < size)
    (v : Value) (n : Nat) (xs : List Value) (hs : a.eval s = v) (hown : w.ownsRow base e size v n xs)
    (B : Nat) (A : Option Addr) (m c : Nat) (news : List Value) (hx : a.eval x = .slice A m c) (hr : Reads w B e size A m news) (h1 : ∀ u ∈ news, u.oneCell' = true)
    (h63 : n + m ≤ maxLen) (hbytes : ((n + m) + (n + m) / 4 + 192) * bytes ≤ 281474976710656) (hbase : base ≤ w.heap.size)
    (h : ∀ v' w', w'.ownsRow base e size v' (n + m) (xs ++ news) → w.grownBy w' v.ownBlock → wpList P ops Q rest (a.put o.dst v') w') : wpList P ops Q (o :: rest) a w :=
  wpList_plain hgd fun _ hK => by
    obtain ⟨v', w', hrun, h2, h3⟩ := run_append_wide (P := P) w base t o.type e i z size bytes ht hi hz hsize hby hzs hsz v n xs hown B A m c news hr h1 h63 hbytes hbase
    unfold Oper.wp execOp
    simp only [ho, resolve, invoke, builtin, Sem.run_bind, Sem.run_pure, Result.andThen_ok, List.map_toArray, List.map_cons, List.map_nil, hs, hx, hrun]
    exact hK _ _ (h v' w' h2 h3)
end
theorem blk2 {w : World} {g : Nat} {t : TypeId} {a b : Value} (h : Blk w g t #[a, b]) : g < w.heap.size ∧ w.cell? ⟨g, 0, none⟩ = some a ∧ w.cell? ⟨g, 1, none⟩ = some b := ⟨h.lt, h.cell 0, h.cell 1⟩
theorem preOk_cons (a : Rec) (aa : List Rec) (b : Rec) (bb : List Rec) : preOk (a :: aa) (b :: bb) = if a.t == b.t then if recB a b then preOk aa bb else false else true := rfl
theorem preOk_nil1 (xs : List Rec) : preOk [] xs = true := by cases xs <;> rfl
theorem preOk_nil2 (xs : List Rec) : preOk xs [] = true := by cases xs <;> rfl
theorem LikeSame_any (A : Option Addr) (n cap : Nat) (A' : Option Addr) (n' cap' : Nat) (rs : List Rec) (w : World) {B : Nat} (hm : n ≤ 140737488355328) (hm' : n' ≤ 140737488355328)
    (h : Recs w B A n rs) (h' : Recs w B A' n' rs) :
    Calls Try.prog 18 #[.slice A n cap, .slice A' n' cap'] w fun e w' => e = .returned (.bool true) ∧ Below w.heap.size w w' := by
  have h0 := LikeRecords_any A n cap rs A' n' cap' rs w hm hm' h h'
  have h1 : n = n' := by rw [← h.len, ← h'.len]
  rw [(likeR_eq (aa := rs) (bb := rs) rfl).2 rfl, Bool.and_true, decide_eq_true h1] at h0
  exact h0
set_option maxRecDepth 100000 in
set_option maxHeartbeats 6400000 in
theorem LawMatches_any (l : Lg) (xs ys more : List Rec) (A : Option Addr) (n cap : Nat) (X : Option Addr) (nx cx : Nat) (Y : Option Addr) (ny cy : Nat) (A' : Option Addr) (n' cap' : Nat) (w : World) {B : Nat} (hB : B ≤ w.heap.size) (hm : n ≤ 4398046510976) (hmx : nx ≤ 4398046510976) (hmy : ny ≤ 4398046510976) (hm' : n' ≤ 4398046510976) (hcap' : n' ≤ cap')
    (h : Recs w B A n l.rs) (hx : Recs w B X nx xs) (hy : Recs w B Y ny ys) (h' : Recs w B A' n' more) :
    Calls Try.prog 7 #[logV l A n cap, .slice X nx cx, .slice Y ny cy, .slice A' n' cap'] w fun e w' => e = .returned (.bool true) ∧ Below w.heap.size w w' := by
  have hX := hid_mk (Blk.new w 24 #[.int .i64 l.base, .int .i64 l.bt, .slice A n cap])
  have hlen := hid_mk h.len
  have hlen' := hid_mk h'.len
  have hlenx := hid_mk hx.len
  have hleny := hid_mk hy.len
  cases hr : rightJ l
  case false =>
    replace hr := hid_mk hr
    rw [logV_eq]
    refine calls_of_wpQ Try.func7 rfl ?_
    intro Q hQ
    simp only [Try.ntmps7, List.size_toArray, List.length_cons, List.length_nil, Nat.reduceAdd, Nat.reduceSub, Array.replicate_succ, Array.replicate_zero, List.push_toArray, List.append_toArray, List.nil_append, List.cons_append]
    go_wp2_with fail
    refine (Last_any l A n cap _ (by omega) (h.to (by go_grown))).mono ?_
    rw [hr.out]
    rintro e w1 ⟨rfl, hb⟩
    have q1 := (after (w := w) hb (by go_grown)).1
    replace hX := hid_mk (hX.out.keep (after hb (by go_grown)).1)
    have hs1 := hb.size; try simp only [World.size_alloc] at hs1; clear hb
    obtain ⟨hgx, x0, x1, x2⟩ := blk3 hX.out
    go_wp2_with fail
    refine (alive_any _).mono ?_
    rintro e w2 ⟨rfl, hb⟩
    have q2 := (after (w := w) hb (by go_grown)).1
    replace hX := hid_mk (hX.out.keep (after hb (by go_grown)).1)
    clear hgx x0 x1 x2
    obtain ⟨hgx, x0, x1, x2⟩ := blk3 hX.out
    have hs2 := hb.size; try simp only [World.size_alloc] at hs2; clear hb
    go_wp2_with fail
    refine (Right_any l A n cap _ (by omega) (h.to (by go_grown))).mono ?_
    rw [hr.out]
    rintro e w3 ⟨rfl, hb⟩
    have q3 := (after (w := w) hb (by go_grown)).1
    replace hX := hid_mk (hX.out.keep (after hb (by go_grown)).1)
    clear hgx x0 x1 x2
    obtain ⟨hgx, x0, x1, x2⟩ := blk3 hX.out
    have hs3 := hb.size; try simp only [World.size_alloc] at hs3; clear hb
    go_wp2_with fail
    refine (alive_any _).mono ?_
    rintro e w4 ⟨rfl, hb⟩
    have q4 := (after (w := w) hb (by go_grown)).1
    replace hX := hid_mk (hX.out.keep (after hb (by go_grown)).1)
    clear hgx x0 x1 x2
    obtain ⟨hgx, x0, x1, x2⟩ := blk3 hX.out
    have hs4 := hb.size; try simp only [World.size_alloc] at hs4; clear hb
    go_wp2
    refine ends_ret hQ (results_tmp rfl _ _ _) rfl ?_
    exact ⟨ret_bool (by simp), by first | exact q4 | go_grown⟩
  have hbd := right_bounds hr
  have hln := hlen.out
  have hn200 : n ≤ 200 := by omega
  obtain ⟨L, hL⟩ : ∃ L, lastJ l = L := ⟨_, rfl⟩
  have hL0 : L = l.base + n := by rw [← hL]; unfold lastJ; rw [hln]
  have hL2 : L ≤ 1073741824 := by omega
  have hL3 : 0 ≤ L := by omega
  obtain ⟨T, hT⟩ : ∃ T, (termJ l L).getD 0 = T := ⟨_, rfl⟩
  have hsx : Hid (rightJ ⟨l.base, l.bt, l.rs ++ xs⟩ = true → preOk xs more = true → (rightJ ⟨L, T, more⟩ = false ∧ (mergeJ ⟨l.base, l.bt, l.rs ++ xs⟩ L T more).e = 1) ∨ (rightJ ⟨L, T, more⟩ = true ∧ ((mergeJ ⟨l.base, l.bt, l.rs ++ xs⟩ L T more).e = 130 ∨ ∃ a, mergeJ ⟨l.base, l.bt, l.rs ++ xs⟩ L T more = ⟨a, L + more.length, true, 0⟩ ∧ behindJ a l.base (L + more.length - l.base) = l.rs ++ more))) := fun g1 g2 => by
    have := match_side (more := more) hr g1 g2
    rw [hL, hT] at this
    exact this
  have hsy : Hid (rightJ ⟨l.base, l.bt, l.rs ++ ys⟩ = true → preOk ys more = true → (rightJ ⟨L, T, more⟩ = false ∧ (mergeJ ⟨l.base, l.bt, l.rs ++ ys⟩ L T more).e = 1) ∨ (rightJ ⟨L, T, more⟩ = true ∧ ((mergeJ ⟨l.base, l.bt, l.rs ++ ys⟩ L T more).e = 130 ∨ ∃ a, mergeJ ⟨l.base, l.bt, l.rs ++ ys⟩ L T more = ⟨a, L + more.length, true, 0⟩ ∧ behindJ a l.base (L + more.length - l.base) = l.rs ++ more))) := fun g1 g2 => by
    have := match_side (more := more) hr g1 g2
    rw [hL, hT] at this
    exact this
  replace hr := hid_mk hr
  replace hL := hid_mk hL
  replace hT := hid_mk hT
  replace hL0 := hid_mk hL0
  clear hln
  by_cases g1 : 200 < n'
  case pos =>
    rw [logV_eq]
    refine calls_of_wpQ Try.func7 rfl ?_
    intro Q hQ
    simp only [Try.ntmps7, List.size_toArray, List.length_cons, List.length_nil, Nat.reduceAdd, Nat.reduceSub, Array.replicate_succ, Array.replicate_zero, List.push_toArray, List.append_toArray, List.nil_append, List.cons_append]
    go_wp2_with fail
    refine (Last_right l A n cap _ hr.out hL.out hT.out (by omega) (h.to (by go_grown))).mono ?_
    rintro e w1 ⟨rfl, hb⟩
    have q1 := (after (w := w) hb (by go_grown)).1
    replace hX := hid_mk (hX.out.keep (after hb (by go_grown)).1)
    have hs1 := hb.size; try simp only [World.size_alloc] at hs1; clear hb
    obtain ⟨hgx, x0, x1, x2⟩ := blk3 hX.out
    go_wp2_with fail
    refine (alive_any _).mono ?_
    rintro e w2 ⟨rfl, hb⟩
    have q2 := (after (w := w) hb (by go_grown)).1
    replace hX := hid_mk (hX.out.keep (after hb (by go_grown)).1)
    clear hgx x0 x1 x2
    obtain ⟨hgx, x0, x1, x2⟩ := blk3 hX.out
    have hs2 := hb.size; try simp only [World.size_alloc] at hs2; clear hb
    go_wp2_with fail
    refine (Right_any l A n cap _ (by omega) (h.to (by go_grown))).mono ?_
    rw [hr.out]
    rintro e w3 ⟨rfl, hb⟩
    have q3 := (after (w := w) hb (by go_grown)).1
    replace hX := hid_mk (hX.out.keep (after hb (by go_grown)).1)
    clear hgx x0 x1 x2
    obtain ⟨hgx, x0, x1, x2⟩ := blk3 hX.out
    have hs3 := hb.size; try simp only [World.size_alloc] at hs3; clear hb
    go_wp2_with fail
    refine (alive_any _).mono ?_
    rintro e w4 ⟨rfl, hb⟩
    have q4 := (after (w := w) hb (by go_grown)).1
    replace hX := hid_mk (hX.out.keep (after hb (by go_grown)).1)
    clear hgx x0 x1 x2
    obtain ⟨hgx, x0, x1, x2⟩ := blk3 hX.out
    have hs4 := hb.size; try simp only [World.size_alloc] at hs4; clear hb
    go_wp2
    refine ends_ret hQ (results_tmp rfl _ _ _) rfl ?_
    exact ⟨ret_bool (by simp), by first | exact q4 | go_grown⟩
  rw [logV_eq]
  refine calls_of_wpQ Try.func7 rfl ?_
  intro Q hQ
  simp only [Try.ntmps7, List.size_toArray, List.length_cons, List.length_nil, Nat.reduceAdd, Nat.reduceSub, Array.replicate_succ, Array.replicate_zero, List.push_toArray, List.append_toArray, List.nil_append, List.cons_append]
  go_wp2_with fail
  refine (Last_right l A n cap _ hr.out hL.out hT.out (by omega) (h.to (by go_grown))).mono ?_
  rintro e w1 ⟨rfl, hb⟩
  have q1 := (after (w := w) hb (by go_grown)).1
  replace hX := hid_mk (hX.out.keep (after hb (by go_grown)).1)
  have hs1 := hb.size; try simp only [World.size_alloc] at hs1; clear hb
  obtain ⟨hgx, x0, x1, x2⟩ := blk3 hX.out
  go_wp2_with fail
  refine (alive_any _).mono ?_
  rintro e w2 ⟨rfl, hb⟩
  have q2 := (after (w := w) hb (by go_grown)).1
  replace hX := hid_mk (hX.out.keep (after hb (by go_grown)).1)
  clear hgx x0 x1 x2
  obtain ⟨hgx, x0, x1, x2⟩ := blk3 hX.out
  have hs2 := hb.size; try simp only [World.size_alloc] at hs2; clear hb
  go_wp2_with fail
  refine (Right_any l A n cap _ (by omega) (h.to (by go_grown))).mono ?_
  rw [hr.out]
  rintro e w3 ⟨rfl, hb⟩
  have q3 := (after (w := w) hb (by go_grown)).1
  replace hX := hid_mk (hX.out.keep (after hb (by go_grown)).1)
  clear hgx x0 x1 x2
  obtain ⟨hgx, x0, x1, x2⟩ := blk3 hX.out
  have hs3 := hb.size; try simp only [World.size_alloc] at hs3; clear hb
  have b1 := hid_mk ((Blk.new w3 24 #[.int .i64 l.base, .int .i64 l.bt, .slice A n cap]).alloc (.cells #[.int .i64 l.base, .int .i64 l.bt, .slice A n cap] 24))
  have b2 := Blk.new (w3.alloc (.cells #[.int .i64 l.base, .int .i64 l.bt, .slice A n cap] 24)) 24 #[.int .i64 l.base, .int .i64 l.bt, .slice A n cap]
  rw [World.size_alloc] at b2
  replace b2 := hid_mk b2
  go_upto_region 4 with fail
  go_cut [11, 12] from 13 (fun p1 p2 wx => ∃ g1 g2 : Nat, p1 = .pointer (some ⟨g1, 0, none⟩) ∧ p2 = .pointer (some ⟨g2, 0, none⟩) ∧ g1 ≠ g2 ∧ w3.heap.size ≤ g1 ∧ w3.heap.size ≤ g2 ∧ Below w3.heap.size w3 wx ∧ Hid (Blk wx g1 24 #[.int .i64 l.base, .int .i64 l.bt, .slice A n cap]) ∧ Hid (Blk wx g2 24 #[.int .i64 l.base, .int .i64 l.bt, .slice A n cap]))
  case first =>
    go_region
    all_goals go_wp2_with fail
    all_goals go_meet
    all_goals first | exact ⟨w3.heap.size, w3.heap.size + 1, rfl, rfl, by omega, by omega, by omega, by go_grown, b1.out.drew, b2.out.drew⟩ | exact ⟨w3.heap.size + 1, w3.heap.size, rfl, rfl, by omega, by omega, by omega, by go_grown, b2.out.drew, b1.out.drew⟩
  case rest =>
    clear b1 b2
    obtain ⟨g1, g2, rfl, rfl, hne, hg1, hg2, hb, hO, hP⟩ := hcut
    have qc : Below w.heap.size w wc := q3.trans (hb.mono q3.size)
    replace hX := hid_mk (hX.out.keep hb)
    clear hgx x0 x1 x2
    have hcz := hb.size
    clear hb
    have d1 : ¬ g1 = g2 := hne
    have d2 : ¬ g2 = g1 := fun e => hne e.symm
    have d3 : ¬ w.heap.size = g1 := by omega
    have d4 : ¬ g1 = w.heap.size := by omega
    have d5 : ¬ w.heap.size = g2 := by omega
    have d6 : ¬ g2 = w.heap.size := by omega
    have d7 : w.heap.size ≤ g1 := by omega
    have d8 : w.heap.size ≤ g2 := by omega
    clear hne
    obtain ⟨i0, hi0, hz0, hz1, hz2⟩ := info_parts recInfo
    obtain ⟨hgx, x0, x1, x2⟩ := blk3 hX.out
    obtain ⟨hgo, o0, o1, o2, p0, p1, p2⟩ := blk3f hO.out
    obtain ⟨hgp, s0, s1, s2, t0, t1, t2⟩ := blk3f hP.out
    have hzwc0 : w.heap.size ≤ wc.heap.size := qc.size
    have hown0 := World.ownsRow_lit (base := wc.heap.size) (e := 47) (size := 3) wc #[] 0 (Nat.le_refl _) (by unfold maxLen; omega) (by simp)
    go_upto_region 6 with (first | (at_builtin; refine wpList_append_wide _ rfl (.tmp 46) (.tmp 48) _ rfl wc.heap.size 47 i0 _ 3 32 Try.underlying22 hi0 hz0 hz1 hz2 rfl (by omega) _ 0 [] rfl hown0 B A n cap (cellsOf l.rs) rfl (h.to (by go_grown)) (rec_one _) (by simp only [maxLen]; omega) (by omega) (by simp) ?_; intro v1 wa hown1 hga; simp only [Nat.zero_add, List.nil_append] at hown1; have ra : Below wc.heap.size wc wa := grown_below (by go_grown) hga (fun k hk => by cases hk; exact Nat.le_refl _); have qa : Below w.heap.size w wa := qc.trans (ra.mono qc.size); clear hown0) | (at_builtin; refine wpList_append_wide _ rfl (.tmp 49) (.tmp 50) _ rfl wc.heap.size 47 i0 _ 3 32 Try.underlying22 hi0 hz0 hz1 hz2 rfl (by omega) _ n (cellsOf l.rs) rfl hown1 B X nx cx (cellsOf xs) rfl (hx.to (by go_grown)) (rec_one _) (by simp only [maxLen]; omega) (by omega) ra.size ?_; intro v2 wb hown2 hgb; have rb : Below wc.heap.size wc wb := grown_below ra hgb (fun k hk => (hown1.lt k hk).1); have qb : Below w.heap.size w wb := qc.trans (rb.mono qc.size); clear hown1; obtain ⟨A1, c1, rfl, ho1, ho2⟩ := own_slice hown2; replace hX := hid_mk (hX.out.keep rb); replace hO := hid_mk (hO.out.keep rb); replace hP := hid_mk (hP.out.keep rb); clear hgx x0 x1 x2 hgo o0 o1 o2 p0 p1 p2 hgp s0 s1 s2 t0 t1 t2; obtain ⟨hgx, x0, x1, x2⟩ := blk3 hX.out; obtain ⟨hgo, o0, o1, o2, p0, p1, p2⟩ := blk3f hO.out; obtain ⟨hgp, s0, s1, s2, t0, t1, t2⟩ := blk3f hP.out))
    have hRo : Recs wb B A1 (n + nx) (l.rs ++ xs) := recs_append (Reads.of_own hown2)
    replace hRo : Recs _ B A1 (n + nx) (l.rs ++ xs) := Reads.far hRo hO.out (by omega) (by decide) 2 (.slice A1 (n + nx) c1)
    clear hown2 hga hgb qa ra rb
    have q_ := qb.setCell (p := ⟨g1, 2, none⟩) (by dsimp only; omega) (.slice A1 (n + nx) c1)
    have hX_ := hX.out.far (p := ⟨g1, 2, none⟩) (by dsimp only; omega) (.slice A1 (n + nx) c1)
    have hO_ : Blk _ g1 24 #[.int .i64 l.base, .int .i64 l.bt, .slice A1 (n + nx) c1] := hO.out.set_ 2 (.slice A1 (n + nx) c1)
    have hP_ := hP.out.far (p := ⟨g1, 2, none⟩) (by dsimp only; omega) (.slice A1 (n + nx) c1)
    clear hgx x0 x1 x2
    clear hgo o0 o1 o2 p0 p1 p2
    clear hgp s0 s1 s2 t0 t1 t2
    clear hX hO hP
    obtain ⟨wd, e7⟩ : ∃ w7, wb.setCell ⟨g1, 2, none⟩ (.slice A1 (n + nx) c1) = w7 := ⟨_, rfl⟩
    rw [e7] at q_ hX_ hO_ hP_ hRo ⊢
    clear e7 qb
    have hX := hid_mk hX_
    clear hX_
    have hO := hid_mk hO_
    clear hO_
    have hP := hid_mk hP_
    clear hP_
    have qwd := q_
    clear q_
    obtain ⟨hgx, x0, x1, x2⟩ := blk3 hX.out
    obtain ⟨hgo, o0, o1, o2, p0, p1, p2⟩ := blk3f hO.out
    obtain ⟨hgp, s0, s1, s2, t0, t1, t2⟩ := blk3f hP.out
    have hzwd0 : w.heap.size ≤ wd.heap.size := qwd.size
    have hown0 := World.ownsRow_lit (base := wd.heap.size) (e := 47) (size := 3) wd #[] 0 (Nat.le_refl _) (by unfold maxLen; omega) (by simp)
    go_upto_region 7 with (first | (at_builtin; refine wpList_append_wide _ rfl (.tmp 53) (.tmp 55) _ rfl wd.heap.size 47 i0 _ 3 32 Try.underlying22 hi0 hz0 hz1 hz2 rfl (by omega) _ 0 [] rfl hown0 B A n cap (cellsOf l.rs) rfl (h.to (by go_grown)) (rec_one _) (by simp only [maxLen]; omega) (by omega) (by simp) ?_; intro v1 wa hown1 hga; simp only [Nat.zero_add, List.nil_append] at hown1; have ra : Below wd.heap.size wd wa := grown_below (by go_grown) hga (fun k hk => by cases hk; exact Nat.le_refl _); have qa : Below w.heap.size w wa := qwd.trans (ra.mono qwd.size); clear hown0) | (at_builtin; refine wpList_append_wide _ rfl (.tmp 56) (.tmp 57) _ rfl wd.heap.size 47 i0 _ 3 32 Try.underlying22 hi0 hz0 hz1 hz2 rfl (by omega) _ n (cellsOf l.rs) rfl hown1 B Y ny cy (cellsOf ys) rfl (hy.to (by go_grown)) (rec_one _) (by simp only [maxLen]; omega) (by omega) ra.size ?_; intro v2 wb hown2 hgb; have rb : Below wd.heap.size wd wb := grown_below ra hgb (fun k hk => (hown1.lt k hk).1); have qb : Below w.heap.size w wb := qwd.trans (rb.mono qwd.size); clear hown1; obtain ⟨A2, c2, rfl, hp1, hp2⟩ := own_slice hown2; replace hX := hid_mk (hX.out.keep rb); replace hO := hid_mk (hO.out.keep rb); replace hP := hid_mk (hP.out.keep rb); clear hgx x0 x1 x2 hgo o0 o1 o2 p0 p1 p2 hgp s0 s1 s2 t0 t1 t2; obtain ⟨hgx, x0, x1, x2⟩ := blk3 hX.out; obtain ⟨hgo, o0, o1, o2, p0, p1, p2⟩ := blk3f hO.out; obtain ⟨hgp, s0, s1, s2, t0, t1, t2⟩ := blk3f hP.out))
    replace hRo := hRo.to rb
    have hRp : Recs wb B A2 (n + ny) (l.rs ++ ys) := recs_append (Reads.of_own hown2)
    replace hRp : Recs _ B A2 (n + ny) (l.rs ++ ys) := Reads.far hRp hP.out (by omega) (by decide) 2 (.slice A2 (n + ny) c2)
    clear hown2 hga hgb qa ra rb
    have q_ := qb.setCell (p := ⟨g2, 2, none⟩) (by dsimp only; omega) (.slice A2 (n + ny) c2)
    have hX_ := hX.out.far (p := ⟨g2, 2, none⟩) (by dsimp only; omega) (.slice A2 (n + ny) c2)
    have hO_ := hO.out.far (p := ⟨g2, 2, none⟩) (by dsimp only; omega) (.slice A2 (n + ny) c2)
    have hP_ : Blk _ g2 24 #[.int .i64 l.base, .int .i64 l.bt, .slice A2 (n + ny) c2] := hP.out.set_ 2 (.slice A2 (n + ny) c2)
    replace hRo := Reads.far hRo hP.out (by omega) (by decide) 2 (.slice A2 (n + ny) c2)
    clear hgx x0 x1 x2
    clear hgo o0 o1 o2 p0 p1 p2
    clear hgp s0 s1 s2 t0 t1 t2
    clear hX hO hP
    obtain ⟨we, e7⟩ : ∃ w7, wb.setCell ⟨g2, 2, none⟩ (.slice A2 (n + ny) c2) = w7 := ⟨_, rfl⟩
    rw [e7] at q_ hX_ hO_ hP_ hRp hRo ⊢
    clear e7 qb
    have hX := hid_mk hX_
    clear hX_
    have hO := hid_mk hO_
    clear hO_
    have hP := hid_mk hP_
    clear hP_
    have qwe := q_
    clear q_
    replace hRo : Recs we B A1 (n + nx) (l.rs ++ xs) := hRo
    replace hRp : Recs we B A2 (n + ny) (l.rs ++ ys) := hRp
    have hlo := hid_mk hRo.len
    have hlp := hid_mk hRp.len
    obtain ⟨N1, hN1⟩ : ∃ N, n + nx = N := ⟨_, rfl⟩
    obtain ⟨N2, hN2⟩ : ∃ N, n + ny = N := ⟨_, rfl⟩
    rw [hN1] at hRo hlo ho1 hO
    rw [hN2] at hRp hlp hp1 hP
    try rw [hN1]
    try rw [hN2]
    have hN1b : N1 ≤ 4398046511176 := by omega
    have hN2b : N2 ≤ 4398046511176 := by omega
    replace hN1 := hid_mk hN1
    replace hN2 := hid_mk hN2
    replace hRo := hid_mk hRo
    replace hRp := hid_mk hRp
    obtain ⟨one, hone⟩ : ∃ o : Lg, (⟨l.base, l.bt, l.rs ++ xs⟩ : Lg) = o := ⟨_, rfl⟩
    obtain ⟨two, htwo⟩ : ∃ o : Lg, (⟨l.base, l.bt, l.rs ++ ys⟩ : Lg) = o := ⟨_, rfl⟩
    replace hone := hid_mk hone
    replace htwo := hid_mk htwo
    clear hz0 hz1 hz2 hi0
    obtain ⟨hgo, o0, o1, o2, p0, p1, p2⟩ := blk3f hO.out
    obtain ⟨hgp, s0, s1, s2, t0, t1, t2⟩ := blk3f hP.out
    cases gr1 : rightJ ⟨l.base, l.bt, l.rs ++ xs⟩
    case false =>
      replace gr1 := hid_mk gr1
      go_wp2_with fail
      refine (Right_any ⟨l.base, l.bt, l.rs ++ xs⟩ A1 N1 c1 _ (by omega) (hRo.out.to (by go_grown))).mono ?_
      rw [gr1.out]
      rintro e w5 ⟨rfl, hb⟩
      have q5 := (after (w := w) hb (by go_grown)).1
      replace hX := hid_mk (hX.out.keep (after hb (by go_grown)).1)
      replace hO := hid_mk (hO.out.keep (after hb (by go_grown)).1)
      replace hP := hid_mk (hP.out.keep (after hb (by go_grown)).1)
      replace hRo := hid_mk (hRo.out.to (after hb (by go_grown)).1)
      replace hRp := hid_mk (hRp.out.to (after hb (by go_grown)).1)
      clear hgo o0 o1 o2 p0 p1 p2 hgp s0 s1 s2 t0 t1 t2
      obtain ⟨hgo, o0, o1, o2, p0, p1, p2⟩ := blk3f hO.out
      obtain ⟨hgp, s0, s1, s2, t0, t1, t2⟩ := blk3f hP.out
      have hs5 := hb.size; try simp only [World.size_alloc] at hs5; clear hb
      go_wp2
      refine ends_ret hQ (results_tmp rfl _ _ _) rfl ?_
      exact ⟨ret_bool (by simp), by first | exact q5 | go_grown⟩
    cases gr2 : rightJ ⟨l.base, l.bt, l.rs ++ ys⟩
    case false =>
      replace gr1 := hid_mk gr1
      replace gr2 := hid_mk gr2
      go_wp2_with fail
      refine (Right_any ⟨l.base, l.bt, l.rs ++ xs⟩ A1 N1 c1 _ (by omega) (hRo.out.to (by go_grown))).mono ?_
      rw [gr1.out]
      rintro e w5 ⟨rfl, hb⟩
      have q5 := (after (w := w) hb (by go_grown)).1
      replace hX := hid_mk (hX.out.keep (after hb (by go_grown)).1)
      replace hO := hid_mk (hO.out.keep (after hb (by go_grown)).1)
      replace hP := hid_mk (hP.out.keep (after hb (by go_grown)).1)
      replace hRo := hid_mk (hRo.out.to (after hb (by go_grown)).1)
      replace hRp := hid_mk (hRp.out.to (after hb (by go_grown)).1)
      clear hgo o0 o1 o2 p0 p1 p2 hgp s0 s1 s2 t0 t1 t2
      obtain ⟨hgo, o0, o1, o2, p0, p1, p2⟩ := blk3f hO.out
      obtain ⟨hgp, s0, s1, s2, t0, t1, t2⟩ := blk3f hP.out
      have hs5 := hb.size; try simp only [World.size_alloc] at hs5; clear hb
      go_wp2_with fail
      refine (Right_any ⟨l.base, l.bt, l.rs ++ ys⟩ A2 N2 c2 _ (by omega) (hRp.out.to (by go_grown))).mono ?_
      rw [gr2.out]
      rintro e w6 ⟨rfl, hb⟩
      have q6 := (after (w := w) hb (by go_grown)).1
      replace hX := hid_mk (hX.out.keep (after hb (by go_grown)).1)
      replace hO := hid_mk (hO.out.keep (after hb (by go_grown)).1)
      replace hP := hid_mk (hP.out.keep (after hb (by go_grown)).1)
      replace hRo := hid_mk (hRo.out.to (after hb (by go_grown)).1)
      replace hRp := hid_mk (hRp.out.to (after hb (by go_grown)).1)
      clear hgo o0 o1 o2 p0 p1 p2 hgp s0 s1 s2 t0 t1 t2
      obtain ⟨hgo, o0, o1, o2, p0, p1, p2⟩ := blk3f hO.out
      obtain ⟨hgp, s0, s1, s2, t0, t1, t2⟩ := blk3f hP.out
      have hs6 := hb.size; try simp only [World.size_alloc] at hs6; clear hb
      go_wp2
      refine ends_ret hQ (results_tmp rfl _ _ _) rfl ?_
      exact ⟨ret_bool (by simp), by first | exact q6 | go_grown⟩
    have k1 := right_bounds gr1
    have k2 := right_bounds gr2
    dsimp only at k1 k2
    have hN1c : N1 ≤ 200 := by have := hlo.out; omega
    have hN2c : N2 ≤ 200 := by have := hlp.out; omega
    clear k1 k2 hN1b hN2b
    replace gr1 := hid_mk gr1
    replace gr2 := hid_mk gr2
    go_wp2_with fail
    refine (Right_any ⟨l.base, l.bt, l.rs ++ xs⟩ A1 N1 c1 _ (by omega) (hRo.out.to (by go_grown))).mono ?_
    rw [gr1.out]
    rintro e w5 ⟨rfl, hb⟩
    have q5 := (after (w := w) hb (by go_grown)).1
    replace hX := hid_mk (hX.out.keep (after hb (by go_grown)).1)
    replace hO := hid_mk (hO.out.keep (after hb (by go_grown)).1)
    replace hP := hid_mk (hP.out.keep (after hb (by go_grown)).1)
    replace hRo := hid_mk (hRo.out.to (after hb (by go_grown)).1)
    replace hRp := hid_mk (hRp.out.to (after hb (by go_grown)).1)
    clear hgo o0 o1 o2 p0 p1 p2 hgp s0 s1 s2 t0 t1 t2
    obtain ⟨hgo, o0, o1, o2, p0, p1, p2⟩ := blk3f hO.out
    obtain ⟨hgp, s0, s1, s2, t0, t1, t2⟩ := blk3f hP.out
    have hs5 := hb.size; try simp only [World.size_alloc] at hs5; clear hb
    go_wp2_with fail
    refine (Right_any ⟨l.base, l.bt, l.rs ++ ys⟩ A2 N2 c2 _ (by omega) (hRp.out.to (by go_grown))).mono ?_
    rw [gr2.out]
    rintro e w6 ⟨rfl, hb⟩
    have q6 := (after (w := w) hb (by go_grown)).1
    replace hX := hid_mk (hX.out.keep (after hb (by go_grown)).1)
    replace hO := hid_mk (hO.out.keep (after hb (by go_grown)).1)
    replace hP := hid_mk (hP.out.keep (after hb (by go_grown)).1)
    replace hRo := hid_mk (hRo.out.to (after hb (by go_grown)).1)
    replace hRp := hid_mk (hRp.out.to (after hb (by go_grown)).1)
    clear hgo o0 o1 o2 p0 p1 p2 hgp s0 s1 s2 t0 t1 t2
    obtain ⟨hgo, o0, o1, o2, p0, p1, p2⟩ := blk3f hO.out
    obtain ⟨hgp, s0, s1, s2, t0, t1, t2⟩ := blk3f hP.out
    have hs6 := hb.size; try simp only [World.size_alloc] at hs6; clear hb
    clear hgo o0 o1 o2 p0 p1 p2
    clear hgp s0 s1 s2 t0 t1 t2
    have hZ0 := Blk.new w6 22 #[.slice X nx cx, .slice Y ny cy]
    replace hZ0 := hid_mk hZ0
    go_wp2
    go_loopw [72] (fun i wr => ∃ (k : Nat), k ≤ 2 ∧ i = .int .i64 k ∧ Below (w6.heap.size + 1) (w6.alloc (.cells #[.slice X nx cx, .slice Y ny cy] 22)) wr ∧ Hid ((1 ≤ k → preOk xs more = true) ∧ (2 ≤ k → preOk ys more = true))) (fun i _ => 2 - (intOf i).toNat)
    case atStart => exact ⟨0, by omega, rfl, Below.refl _ _, ⟨fun h => by omega, fun h => by omega⟩⟩
    case round =>
      obtain ⟨k, hk, rfl, hb, hpre⟩ := hrel
      have hbz : Below (w6.alloc (.cells #[.slice X nx cx, .slice Y ny cy] 22)).heap.size (w6.alloc (.cells #[.slice X nx cx, .slice Y ny cy] 22)) wr := by rw [World.size_alloc]; exact hb
      have hb6 : Below w6.heap.size w6 wr := ((Below.refl _ w6).alloc (Nat.le_refl _) _).trans (hbz.mono (by simp))
      have hwz := hbz.size
      rw [World.size_alloc] at hwz
      replace hX := hid_mk (hX.out.keep hb6)
      replace hO := hid_mk (hO.out.keep hb6)
      replace hP := hid_mk (hP.out.keep hb6)
      replace hRo := hid_mk (hRo.out.to hb6)
      replace hRp := hid_mk (hRp.out.to hb6)
      have hZ1 := hid_mk (hZ0.out.keep hbz)
      have qr : Below w.heap.size w wr := q6.trans (hb6.mono q6.size)
      clear hbz hb6
      obtain ⟨hgz, z0, z1⟩ := blk2 hZ1.out
      rcases (by omega : k = 0 ∨ k = 1 ∨ k = 2) with rfl | rfl | rfl
      · skip
        obtain ⟨wo, rfl⟩ : ∃ wo : World, wo = wr := ⟨_, rfl⟩
        go_wp2
        go_loopw [15] (fun i wr => ∃ (j : Nat), j ≤ nx ∧ j ≤ n' ∧ i = .int .i64 j ∧ Below wo.heap.size wo wr ∧ Hid (preOk xs more = preOk (xs.drop j) (more.drop j))) (fun i _ => n' - (intOf i).toNat)
        case atStart => exact ⟨0, Nat.zero_le _, Nat.zero_le _, rfl, Below.refl _ _, by simp [Hid]⟩
        case round =>
          obtain ⟨j, hj1, hj2, rfl, hbi, hpi⟩ := hrel
          have qi : Below w.heap.size w wr := qr.trans (hbi.mono qr.size)
          by_cases g3 : j < nx
          case neg =>
            have hnil := hid_mk (Recs.end_ hx g3)
            have hfin : preOk xs more = true := by rw [hpi.out, hnil.out]; exact preOk_nil1 _
            replace hfin := hid_mk hfin
            go_wp2
            go_roundw
            case rel => exact ⟨1, by omega, by rfl, hb.trans (hbi.mono (by omega)), ⟨fun _ => hfin.out, fun h => by omega⟩⟩
            case measure => simp [intOf]
          by_cases g4 : j < n'
          case neg =>
            have hnil := hid_mk (Recs.end_ h' g4)
            have hfin : preOk xs more = true := by rw [hpi.out, hnil.out]; exact preOk_nil2 _
            replace hfin := hid_mk hfin
            go_wp2
            go_roundw
            case rel => exact ⟨1, by omega, by rfl, hb.trans (hbi.mono (by omega)), ⟨fun _ => hfin.out, fun h => by omega⟩⟩
            case measure => simp [intOf]
          obtain ⟨b, o, r, rfl, hbb, hd, ct, ck, cd⟩ := (h'.to qi).at_ g4
          obtain ⟨b', o', r', rfl, hbb', hd', ct', ck', cd'⟩ := (hx.to qi).at_ g3
          obtain ⟨rt, rk, rd⟩ := r
          obtain ⟨st, sk, sd⟩ := r'
          dsimp only at ct ck cd ct' ck' cd'
          have kj1 : (j : Int) < nx := by omega
          have kj2 : (j : Int) < n' := by omega
          have kj0 : (0 : Int) ≤ j := by omega
          have hcons : Hid (preOk xs more = if st == rt then if recB ⟨st, sk, sd⟩ ⟨rt, rk, rd⟩ then preOk (xs.drop (j + 1)) (more.drop (j + 1)) else false else true) := by rw [Hid, hpi.out, hd.out, hd'.out, preOk_cons]
          by_cases e : (st == rt) = true
          case neg =>
            have e1 : (st == rt) = false := by simpa using e
            have e2 : (st != rt) = true := by simpa using e
            have hfin : preOk xs more = true := by rw [hcons.out, if_neg e]
            replace hfin := hid_mk hfin
            replace e := hid_mk e
            go_wp2_with fail
            go_quiet (fail)
            go_wp2_with fail
            go_quiet (fail)
            go_wp2
            go_roundw
            case rel => exact ⟨1, by omega, by rfl, below_drewN (hb.trans (hbi.mono (by omega))) _, ⟨fun _ => hfin.out, fun h => by omega⟩⟩
            case measure => simp [intOf]
          have e2 : (st != rt) = false := by simpa using e
          have hne := fun w => run_neq_rec st sk sd rt rk rd w
          cases e3 : recB ⟨st, sk, sd⟩ ⟨rt, rk, rd⟩
          case false =>
            have e4 : Hid (recB ⟨st, sk, sd⟩ ⟨rt, rk, rd⟩ = false) := e3
            simp only [e3, Bool.not_false] at hne
            clear e3
            go_wp2_with fail
            go_quiet (fail)
            go_wp2
            refine ends_ret hQ (results_tmp rfl _ _ _) rfl ?_
            exact ⟨ret_bool (by simp), by first | exact below_drewN qi _ | go_grown⟩
          case true =>
            have hfin : preOk xs more = preOk (xs.drop (j + 1)) (more.drop (j + 1)) := by rw [hcons.out, if_pos e, if_pos e3]
            replace hfin := hid_mk hfin
            simp only [e3, Bool.not_true] at hne
            clear e3
            go_wp2_with fail
            go_quiet (fail)
            go_wp2_with fail
            go_quiet (fail)
            go_wp2
            go_roundw
            case rel => exact ⟨j + 1, by omega, by omega, by go_num, below_drewN hbi _, hfin⟩
            case measure => simp [intOf]; omega
      · skip
        obtain ⟨wo, rfl⟩ : ∃ wo : World, wo = wr := ⟨_, rfl⟩
        go_wp2
        go_loopw [15] (fun i wr => ∃ (j : Nat), j ≤ ny ∧ j ≤ n' ∧ i = .int .i64 j ∧ Below wo.heap.size wo wr ∧ Hid (preOk ys more = preOk (ys.drop j) (more.drop j))) (fun i _ => n' - (intOf i).toNat)
        case atStart => exact ⟨0, Nat.zero_le _, Nat.zero_le _, rfl, Below.refl _ _, by simp [Hid]⟩
        case round =>
          obtain ⟨j, hj1, hj2, rfl, hbi, hpi⟩ := hrel
          have qi : Below w.heap.size w wr := qr.trans (hbi.mono qr.size)
          by_cases g3 : j < ny
          case neg =>
            have hnil := hid_mk (Recs.end_ hy g3)
            have hfin : preOk ys more = true := by rw [hpi.out, hnil.out]; exact preOk_nil1 _
            replace hfin := hid_mk hfin
            go_wp2
            go_roundw
            case rel => exact ⟨2, by omega, by rfl, hb.trans (hbi.mono (by omega)), ⟨fun _ => hpre.out.1 (by omega), fun h => hfin.out⟩⟩
            case measure => simp [intOf]
          by_cases g4 : j < n'
          case neg =>
            have hnil := hid_mk (Recs.end_ h' g4)
            have hfin : preOk ys more = true := by rw [hpi.out, hnil.out]; exact preOk_nil2 _
            replace hfin := hid_mk hfin
            go_wp2
            go_roundw
            case rel => exact ⟨2, by omega, by rfl, hb.trans (hbi.mono (by omega)), ⟨fun _ => hpre.out.1 (by omega), fun h => hfin.out⟩⟩
            case measure => simp [intOf]
          obtain ⟨b, o, r, rfl, hbb, hd, ct, ck, cd⟩ := (h'.to qi).at_ g4
          obtain ⟨b', o', r', rfl, hbb', hd', ct', ck', cd'⟩ := (hy.to qi).at_ g3
          obtain ⟨rt, rk, rd⟩ := r
          obtain ⟨st, sk, sd⟩ := r'
          dsimp only at ct ck cd ct' ck' cd'
          have kj1 : (j : Int) < ny := by omega
          have kj2 : (j : Int) < n' := by omega
          have kj0 : (0 : Int) ≤ j := by omega
          have hcons : Hid (preOk ys more = if st == rt then if recB ⟨st, sk, sd⟩ ⟨rt, rk, rd⟩ then preOk (ys.drop (j + 1)) (more.drop (j + 1)) else false else true) := by rw [Hid, hpi.out, hd.out, hd'.out, preOk_cons]
          by_cases e : (st == rt) = true
          case neg =>
            have e1 : (st == rt) = false := by simpa using e
            have e2 : (st != rt) = true := by simpa using e
            have hfin : preOk ys more = true := by rw [hcons.out, if_neg e]
            replace hfin := hid_mk hfin
            replace e := hid_mk e
            go_wp2_with fail
            go_quiet (fail)
            go_wp2_with fail
            go_quiet (fail)
            go_wp2
            go_roundw
            case rel => exact ⟨2, by omega, by rfl, below_drewN (hb.trans (hbi.mono (by omega))) _, ⟨fun _ => hpre.out.1 (by omega), fun h => hfin.out⟩⟩
            case measure => simp [intOf]
          have e2 : (st != rt) = false := by simpa using e
          have hne := fun w => run_neq_rec st sk sd rt rk rd w
          cases e3 : recB ⟨st, sk, sd⟩ ⟨rt, rk, rd⟩
          case false =>
            have e4 : Hid (recB ⟨st, sk, sd⟩ ⟨rt, rk, rd⟩ = false) := e3
            simp only [e3, Bool.not_false] at hne
            clear e3
            go_wp2_with fail
            go_quiet (fail)
            go_wp2
            refine ends_ret hQ (results_tmp rfl _ _ _) rfl ?_
            exact ⟨ret_bool (by simp), by first | exact below_drewN qi _ | go_grown⟩
          case true =>
            have hfin : preOk ys more = preOk (ys.drop (j + 1)) (more.drop (j + 1)) := by rw [hcons.out, if_pos e, if_pos e3]
            replace hfin := hid_mk hfin
            simp only [e3, Bool.not_true] at hne
            clear e3
            go_wp2_with fail
            go_quiet (fail)
            go_wp2_with fail
            go_quiet (fail)
            go_wp2
            go_roundw
            case rel => exact ⟨j + 1, by omega, by omega, by go_num, below_drewN hbi _, hfin⟩
            case measure => simp [intOf]; omega
      · skip
        have hsx2 := hsx.out gr1.out (hpre.out.1 (by omega))
        have hsy2 := hsy.out gr2.out (hpre.out.2 (by omega))
        rw [hlen'.out] at hsx2 hsy2
        have hl1 := merge_len ⟨l.base, l.bt, l.rs ++ xs⟩ L T more
        have hl2 := merge_len ⟨l.base, l.bt, l.rs ++ ys⟩ L T more
        obtain ⟨ma, hma⟩ : ∃ m, mergeJ ⟨l.base, l.bt, l.rs ++ xs⟩ L T more = m := ⟨_, rfl⟩
        obtain ⟨mb, hmb⟩ : ∃ m, mergeJ ⟨l.base, l.bt, l.rs ++ ys⟩ L T more = m := ⟨_, rfl⟩
        rw [hma] at hl1 hsx2
        rw [hmb] at hl2 hsy2
        replace hma := hid_mk hma
        replace hmb := hid_mk hmb
        obtain ⟨al, an, af, ae⟩ := ma
        obtain ⟨bl, bn, bf, be⟩ := mb
        dsimp only at hl1 hl2 hsx2 hsy2
        replace hsx2 := hid_mk hsx2
        replace hsy2 := hid_mk hsy2
        clear hsx hsy hgz z0 z1 hZ1
        obtain ⟨hgx, x0, x1, x2⟩ := blk3 hX.out
        obtain ⟨hgo, o0, o1, o2, p0, p1, p2⟩ := blk3f hO.out
        obtain ⟨hgp, s0, s1, s2, t0, t1, t2⟩ := blk3f hP.out
        go_wp2_with fail
        refine (Merge_any ⟨l.base, l.bt, l.rs ++ xs⟩ L T more A1 N1 c1 A' n' cap' _ (B := B) (by first | omega | (simp; omega)) (by omega) (by omega) ho1 hcap' (hRo.out.to (by go_grown)) (h'.to (by go_grown))).mono ?_
        rw [hma.out]
        rintro e w7 ⟨A5, n5, c5, rfl, hRa, h51, h52, hb⟩
        have q7 := (after (w := w) hb (by go_grown)).1
        replace hX := hid_mk (hX.out.keep (after hb (by go_grown)).1)
        replace hO := hid_mk (hO.out.keep (after hb (by go_grown)).1)
        replace hP := hid_mk (hP.out.keep (after hb (by go_grown)).1)
        replace hRo := hid_mk (hRo.out.to (after hb (by go_grown)).1)
        replace hRp := hid_mk (hRp.out.to (after hb (by go_grown)).1)
        clear hgx x0 x1 x2 hgo o0 o1 o2 p0 p1 p2 hgp s0 s1 s2 t0 t1 t2
        obtain ⟨hgx, x0, x1, x2⟩ := blk3 hX.out
        obtain ⟨hgo, o0, o1, o2, p0, p1, p2⟩ := blk3f hO.out
        obtain ⟨hgp, s0, s1, s2, t0, t1, t2⟩ := blk3f hP.out
        replace hRa := hid_mk hRa
        have hlena := hid_mk hRa.out.len
        have hla : n5 ≤ 200 := by have := hlena.out; dsimp only at this; omega
        unfold logV
        dsimp only
        have hs7 := hb.size; try simp only [World.size_alloc] at hs7; clear hb
        have hA := hid_mk (Blk.new w7 24 #[.int .i64 al.base, .int .i64 al.bt, .slice A5 n5 c5])
        go_wp2_with fail
        refine (Merge_any ⟨l.base, l.bt, l.rs ++ ys⟩ L T more A2 N2 c2 A' n' cap' _ (B := B) (by first | omega | (simp; omega)) (by omega) (by omega) hp1 hcap' (hRp.out.to (by go_grown)) (h'.to (by go_grown))).mono ?_
        rw [hmb.out]
        rintro e w8 ⟨A6, n6, c6, rfl, hRb, h61, h62, hb⟩
        have q8 := (after (w := w) hb (by go_grown)).1
        replace hX := hid_mk (hX.out.keep (after hb (by go_grown)).1)
        replace hO := hid_mk (hO.out.keep (after hb (by go_grown)).1)
        replace hP := hid_mk (hP.out.keep (after hb (by go_grown)).1)
        replace hA := hid_mk (hA.out.keep (after hb (by go_grown)).1)
        replace hRp := hid_mk (hRp.out.to (after hb (by go_grown)).1)
        replace hRa := hid_mk (hRa.out.to (after hb (by go_grown)).1)
        clear hgx x0 x1 x2 hgo o0 o1 o2 p0 p1 p2 hgp s0 s1 s2 t0 t1 t2
        obtain ⟨hgx, x0, x1, x2⟩ := blk3 hX.out
        obtain ⟨hgo, o0, o1, o2, p0, p1, p2⟩ := blk3f hO.out
        obtain ⟨hgp, s0, s1, s2, t0, t1, t2⟩ := blk3f hP.out
        replace hRb := hid_mk hRb
        have hlenb := hid_mk hRb.out.len
        have hlb : n6 ≤ 200 := by have := hlenb.out; dsimp only at this; omega
        unfold logV
        dsimp only
        have hs8 := hb.size; try simp only [World.size_alloc] at hs8; clear hb
        have hBb := hid_mk (Blk.new w8 24 #[.int .i64 bl.base, .int .i64 bl.bt, .slice A6 n6 c6])
        clear hgo o0 o1 o2 p0 p1 p2
        clear hO
        clear hgp s0 s1 s2 t0 t1 t2
        clear hP
        rcases hsx2.out with ⟨f1, f2⟩ | ⟨f1, f2⟩
        case inl =>
          subst f2
          rcases hsy2.out with ⟨f3, f4⟩ | ⟨f3, f4⟩
          · subst f4
            clear f1 f3
            go_wp2
            refine ends_ret hQ (results_tmp rfl _ _ _) rfl ?_
            exact ⟨ret_bool (by simp), by first | exact q8 | go_grown⟩
          · rw [f1] at f3; cases f3
        case inr =>
          rcases f2 with f2 | ⟨a, ha, hbe⟩
          case inl =>
            subst f2
            clear f1
            go_wp2
            refine ends_ret hQ (results_tmp rfl _ _ _) rfl ?_
            exact ⟨ret_bool (by simp), by first | exact q8 | go_grown⟩
          simp only [Mg.mk.injEq] at ha
          obtain ⟨rfl, rfl, rfl, rfl⟩ := ha
          rcases hsy2.out with ⟨f3, f4⟩ | ⟨f3, f4⟩
          case inl => rw [f1] at f3; cases f3
          clear f1 f3
          rcases f4 with f4 | ⟨b, hb2, hbe2⟩
          case inl =>
            subst f4
            replace hbe := hid_mk hbe
            go_wp2
            refine ends_ret hQ (results_tmp rfl _ _ _) rfl ?_
            exact ⟨ret_bool (by simp), by first | exact q8 | go_grown⟩
          simp only [Mg.mk.injEq] at hb2
          obtain ⟨rfl, rfl, rfl, rfl⟩ := hb2
          replace hbe := hid_mk hbe
          replace hbe2 := hid_mk hbe2
          clear hsx2 hsy2
          obtain ⟨i0, hi0, hz0, hz1, hz2⟩ := info_parts recInfo
          have hL4 : l.base ≤ L := by have := hL0.out; omega
          have hw : IntKind.i64.wrap (L + n' - l.base) = L + n' - l.base := IntWalk.i64_in _ (by omega)
          have hw0 : IntKind.i64.wrap (L + n') = L + n' := IntWalk.i64_in _ (by omega)
          have hnn : ((L + (n' : Int)) != L + n') = false := by simp
          go_wp2_with fail
          obtain ⟨hga, a0, a1, a2⟩ := blk3 hA.out
          obtain ⟨hgb, b0, b1, b2⟩ := blk3 hBb.out
          go_region_held3 (fun w' => w'.cell? ⟨w7.heap.size, 0, none⟩ = some (.int .i64 al.base) ∧ w'.cell? ⟨w7.heap.size, 1, none⟩ = some (.int .i64 al.bt) ∧ w'.cell? ⟨w7.heap.size, 2, none⟩ = some (.slice A5 n5 c5) ∧ w'.cell? ⟨w8.heap.size, 0, none⟩ = some (.int .i64 bl.base) ∧ w'.cell? ⟨w8.heap.size, 1, none⟩ = some (.int .i64 bl.bt) ∧ w'.cell? ⟨w8.heap.size, 2, none⟩ = some (.slice A6 n6 c6) ∧ w'.cell? ⟨w.heap.size, 0, none⟩ = some (.int .i64 l.base)) ((first | (refine ⟨?_, ?_, ?_, ?_, ?_, ?_, ?_⟩ <;> assumption) | go_keep)) (first | (go_at_call_of 11 (Value.agg #[Value.int .i64 al.base, Value.int .i64 al.bt, Value.slice A5 n5 c5]); refine (Behind_any al l.base (L + n' - l.base) A5 n5 c5 _ (by omega) h51 (hRa.out.to (by go_grown))).mono ?_; rw [hbe.out]; rintro e w9 ⟨Au, nu, cu, rfl, hRu, hu1, hu2, hb⟩; have q9 := (after (w := w) hb (by go_grown)).1; replace hX := hid_mk (hX.out.keep (after hb (by go_grown)).1); replace hA := hid_mk (hA.out.keep (after hb (by go_grown)).1); replace hBb := hid_mk (hBb.out.keep (after hb (by go_grown)).1); replace hRa := hid_mk (hRa.out.to (after hb (by go_grown)).1); replace hRb := hid_mk (hRb.out.to (after hb (by go_grown)).1); clear hgx x0 x1 x2 hga a0 a1 a2 hgb b0 b1 b2; obtain ⟨hgx, x0, x1, x2⟩ := blk3 hX.out; obtain ⟨hga, a0, a1, a2⟩ := blk3 hA.out; obtain ⟨hgb, b0, b1, b2⟩ := blk3 hBb.out; replace hRu := hid_mk hRu; try (replace hRv := hid_mk (hRv.out.to (after hb (by go_grown)).1)); have hs9 := hb.size; clear hb) | (go_at_call_of 11 (Value.agg #[Value.int .i64 bl.base, Value.int .i64 bl.bt, Value.slice A6 n6 c6]); refine (Behind_any bl l.base (L + n' - l.base) A6 n6 c6 _ (by omega) h61 (hRb.out.to (by go_grown))).mono ?_; rw [hbe2.out]; rintro e w9 ⟨Av, nv, cv, rfl, hRv, hv1, hv2, hb⟩; have q9 := (after (w := w) hb (by go_grown)).1; replace hX := hid_mk (hX.out.keep (after hb (by go_grown)).1); replace hA := hid_mk (hA.out.keep (after hb (by go_grown)).1); replace hBb := hid_mk (hBb.out.keep (after hb (by go_grown)).1); replace hRa := hid_mk (hRa.out.to (after hb (by go_grown)).1); replace hRb := hid_mk (hRb.out.to (after hb (by go_grown)).1); clear hgx x0 x1 x2 hga a0 a1 a2 hgb b0 b1 b2; obtain ⟨hgx, x0, x1, x2⟩ := blk3 hX.out; obtain ⟨hga, a0, a1, a2⟩ := blk3 hA.out; obtain ⟨hgb, b0, b1, b2⟩ := blk3 hBb.out; replace hRv := hid_mk hRv; try (replace hRu := hid_mk (hRu.out.to (after hb (by go_grown)).1)); have hs9 := hb.size; clear hb))
          all_goals
            clear hga a0 a1 a2
            clear hA
            clear hgb b0 b1 b2
            clear hBb
            have hlu : nu = n + n' := by have := hRu.out.len; simp only [List.length_append, hlen.out, hlen'.out] at this; omega
            have hlv : nv = n + n' := by have := hRv.out.len; simp only [List.length_append, hlen.out, hlen'.out] at this; omega
            have hnb : nu ≤ 400 := by omega
            have hnc : nv ≤ 400 := by omega
            have hnu1 : n ≤ nu := by omega
            have ekk : (n : Int) ≤ nu := by omega
            have ek1 : (n : Int) ≤ cu := by omega
            have ek0 : (0 : Int) ≤ n := by omega
            have hE1 : ((nu : Int) == L + n' - l.base) = true := by simp only [beq_iff_eq]; have := hL0.out; omega
            have hT1 : Recs w9 B Au n l.rs := by have := hRu.out.take hnu1; rwa [List.take_left' hlen.out] at this
            have hT2 : Recs w9 B (cutA Au cu n 3) (nu - n) more := by have := hRu.out.cutA (k := n) (cap := cu) hnu1 hu1; rwa [List.drop_left' hlen.out] at this
            have e1 := fun w => run_slice_upto (P := Try.prog) w 22 47 Try.underlying22 i0 hi0 Au nu cu n (by omega) (by omega)
            have e2 := fun w => run_slice_from (P := Try.prog) w 22 47 Try.underlying22 i0 hi0 3 hz1 Au nu cu n (by omega) (by omega)
            obtain ⟨q, hq⟩ : ∃ q, nu - n = q := ⟨_, rfl⟩
            obtain ⟨C, hC⟩ : ∃ C, cutA Au cu n 3 = C := ⟨_, rfl⟩
            obtain ⟨cq, hcq⟩ : ∃ q, cu - n = q := ⟨_, rfl⟩
            have hq4 : q ≤ 400 := by omega
            rw [hq] at hT2
            rw [hC] at hT2
            simp only [Int.toNat_natCast, hq, hC, hcq] at e1 e2
            clear hq hC hcq hlu hlv hi0 hz0 hz1 hz2
            replace hT1 := hid_mk hT1
            replace hT2 := hid_mk hT2
            go_wp2_with fail
            go_region_held3 (fun w' => w'.cell? ⟨w.heap.size, 0, none⟩ = some (.int .i64 l.base) ∧ w'.cell? ⟨w.heap.size, 2, none⟩ = some (.slice A n cap)) ((first | (refine ⟨?_, ?_⟩ <;> assumption) | go_keep)) (first | (go_at_call_of 18 (Value.slice Au nu cu); refine (LikeSame_any Au nu cu Av nv cv (l.rs ++ more) _ (by omega) (by omega) (hRu.out.to (by go_grown)) (hRv.out.to (by go_grown))).mono ?_; rintro e w10 ⟨rfl, hb⟩; have q10 := (after (w := w) hb (by go_grown)).1; replace hX := hid_mk (hX.out.keep (after hb (by go_grown)).1); replace hRu := hid_mk (hRu.out.to (after hb (by go_grown)).1); replace hRv := hid_mk (hRv.out.to (after hb (by go_grown)).1); replace hT1 := hid_mk (hT1.out.to (after hb (by go_grown)).1); replace hT2 := hid_mk (hT2.out.to (after hb (by go_grown)).1); clear hgx x0 x1 x2; obtain ⟨hgx, x0, x1, x2⟩ := blk3 hX.out; have hs10 := hb.size; clear hb) | (go_at_call_of 18 (Value.slice Au n cu); refine (LikeSame_any Au n cu A n cap l.rs _ (by omega) (by omega) (hT1.out.to (by go_grown)) (h.to (by go_grown))).mono ?_; rintro e w11 ⟨rfl, hb⟩; have q11 := (after (w := w) hb (by go_grown)).1; replace hX := hid_mk (hX.out.keep (after hb (by go_grown)).1); replace hRu := hid_mk (hRu.out.to (after hb (by go_grown)).1); replace hRv := hid_mk (hRv.out.to (after hb (by go_grown)).1); replace hT1 := hid_mk (hT1.out.to (after hb (by go_grown)).1); replace hT2 := hid_mk (hT2.out.to (after hb (by go_grown)).1); clear hgx x0 x1 x2; obtain ⟨hgx, x0, x1, x2⟩ := blk3 hX.out; have hs11 := hb.size; clear hb) | (go_at_call_of 18 (Value.slice C q cq); refine (LikeSame_any C q cq A' n' cap' more _ (by omega) (by omega) (hT2.out.to (by go_grown)) (h'.to (by go_grown))).mono ?_; rintro e w12 ⟨rfl, hb⟩; have q12 := (after (w := w) hb (by go_grown)).1; replace hX := hid_mk (hX.out.keep (after hb (by go_grown)).1); replace hRu := hid_mk (hRu.out.to (after hb (by go_grown)).1); replace hRv := hid_mk (hRv.out.to (after hb (by go_grown)).1); replace hT1 := hid_mk (hT1.out.to (after hb (by go_grown)).1); replace hT2 := hid_mk (hT2.out.to (after hb (by go_grown)).1); clear hgx x0 x1 x2; obtain ⟨hgx, x0, x1, x2⟩ := blk3 hX.out; have hs12 := hb.size; clear hb))
            go_wp2
            refine ends_ret hQ (results_tmp rfl _ _ _) rfl ?_
            exact ⟨ret_bool (by simp), by first | exact q12 | go_grown⟩
theorem LawMatches_walk (l0 : Lg) (a0 : Option Addr) (len0 cap0 : Nat) {w : World} (i0 : Recs w w.heap.size a0 len0 l0.rs) (lc0 : len0 ≤ cap0) (hs0 : cap0 * 32 ≤ 140737488351232)
    (a1 : Option Addr) (len1 cap1 : Nat) (rs1 : List Rec) (i1 : Recs w w.heap.size a1 len1 rs1) (lc1 : len1 ≤ cap1) (hs1 : cap1 * 32 ≤ 140737488351232)
    (a2 : Option Addr) (len2 cap2 : Nat) (rs2 : List Rec) (i2 : Recs w w.heap.size a2 len2 rs2) (lc2 : len2 ≤ cap2) (hs2 : cap2 * 32 ≤ 140737488351232)
    (a3 : Option Addr) (len3 cap3 : Nat) (rs3 : List Rec) (i3 : Recs w w.heap.size a3 len3 rs3) (lc3 : len3 ≤ cap3) (hs3 : cap3 * 32 ≤ 140737488351232) :
    Calls Try.prog 7 #[logV l0 a0 len0 cap0, .slice a1 len1 cap1, .slice a2 len2 cap2, .slice a3 len3 cap3] w fun e w' => e = .returned (.bool true) ∧ Below w.heap.size w w' :=
  LawMatches_any _ _ _ _ _ _ _ _ _ _ _ _ _ _ _ _ _ (Nat.le_refl _) (by omega) (by omega) (by omega) (by omega) lc3 i0 i1 i2 i3
end Go.Proofs.Ythaddhdlmlnclaa
