/-
  WHAT IS PROVED HERE: what plural.Parse hands back. No condition.
-/
import Derived.Test.YtfafinnklniniaaDoorPlu6
import Derived.Test.YtfafinnklniniaaDoorPlu2
import Derived.Test.YtfafinnklniniaaDoorPluQ
namespace Go.Proofs.YtfafinnklniniaaDoor
open Go.RowKit

theorem Reads.stay {w w' : World} {e : TypeId} {size n : Nat} {A : Option Addr} {xs : List Value} {row : Option Nat} (h : Reads w 0 e size A n xs) (hg : w.grownBy w' row) (hr : ∀ k, row = some k → ∃ t cs fr, w.heap[k]? = some (.cells cs t fr) ∧ t ≠ e) : Reads w' 0 e size A n xs :=
  ⟨h.1, fun hn => by
    obtain ⟨b, o, ea, hlt, ht, hc⟩ := h.2 hn
    rcases ht with ht | ⟨cs, fr, ht⟩
    · omega
    have hne : some b ≠ row := by
      intro e1
      obtain ⟨t, cs', fr', h1, h2⟩ := hr b e1.symm
      rw [h1] at ht
      injection ht with ht
      injection ht with _ h3
      exact h2 h3
    have hbk := hg.block b hlt hne
    exact ⟨b, o, ea, Nat.lt_of_lt_of_le hlt hg.size, .inr ⟨cs, fr, hbk.trans ht⟩, fun j u hu => (World.cell?_of_block (a := ⟨b, o + j, none⟩) hbk).trans (hc j u hu)⟩⟩
theorem Spans.stay {w w' : World} {n : Nat} {A : Option Addr} {l : List (Int × Int)} {row : Option Nat} (h : Spans w 0 A n l) (hg : w.grownBy w' row) (hr : ∀ k, row = some k → ∃ t cs fr, w.heap[k]? = some (.cells cs t fr) ∧ t ≠ 45) : Spans w' 0 A n l := Reads.stay h hg hr
theorem Rels.stay {w w' : World} {n : Nat} {A : Option Addr} {l : List Rl} {row : Option Nat} (h : Rels w 0 A n l) (hg : w.grownBy w' row) (hr : ∀ k, row = some k → ∃ t cs fr, w.heap[k]? = some (.cells cs t fr) ∧ t ≠ 45 ∧ t ≠ 37) : Rels w' 0 A n l := by
  obtain ⟨zs, h0, h1, h2⟩ := h
  exact ⟨zs, h0, h1.stay hg (fun k hk => by obtain ⟨t, cs, fr, a, _, c⟩ := hr k hk; exact ⟨t, cs, fr, a, c⟩), fun z hz => ⟨(h2 z hz).1.stay hg (fun k hk => by obtain ⟨t, cs, fr, a, b, _⟩ := hr k hk; exact ⟨t, cs, fr, a, b⟩), (h2 z hz).2⟩⟩
theorem own_typed {w : World} {B : Nat} {e : TypeId} {size n : Nat} {v : Value} {xs : List Value} (h : w.ownsRow B e size v n xs) : ∀ k, v.ownBlock = some k → ∃ cs fr, w.heap[k]? = some (.cells cs e fr) := by
  intro k hk
  rcases h.2 with ⟨rfl, _⟩ | ⟨g, cap, cur, rfl, hb, hg, _⟩
  · simp [Value.ownBlock] at hk
  · simp [Value.ownBlock] at hk
    subst hk
    exact ⟨cur, _, hg⟩
/-- the row under way -/
def OwnR (w : World) (B : Nat) (v : Value) (zs : List (Rl × Sl)) : Prop := w.ownsRow B 37 3 v zs.length (zs.flatMap relC) ∧ ∀ z ∈ zs, Spans w 0 z.2.1 z.2.2.1 z.1.spans ∧ z.2.2.1 ≤ 8796093022208
/-- the rows that are read -/
def OwnW (w : World) (B : Nat) (v : Value) (ys : List (List Rl × Sl)) : Prop := w.ownsRow B 34 1 v ys.length (ys.map fun y => slV y.2) ∧ ∀ y ∈ ys, Rels w 0 y.2.1 y.2.2.1 y.1 ∧ y.2.2.1 ≤ 8796093022208
section
variable {w w' : World} {B g : Nat} {v : Value} {zs : List (Rl × Sl)} {ys : List (List Rl × Sl)} {cs : Array Value}
theorem OwnR.kept (h : OwnR w B v zs) (hk : Blk w g 50 cs) (hb : w.grownBy w' (some g)) (hB : g < B) : OwnR w' B v zs :=
  ⟨World.ownsRow.kept h.1 hb (.inr (fun e => by have := (World.ownsRow.lt h.1 _ e).1; omega)), fun z hz => ⟨(h.2 z hz).1.stay hb (fun k e => by cases e; exact ⟨_, _, _, hk, by decide⟩), (h.2 z hz).2⟩⟩
theorem OwnW.kept (h : OwnW w B v ys) (hk : Blk w g 50 cs) (hb : w.grownBy w' (some g)) (hB : g < B) : OwnW w' B v ys :=
  ⟨World.ownsRow.kept h.1 hb (.inr (fun e => by have := (World.ownsRow.lt h.1 _ e).1; omega)), fun z hz => ⟨(h.2 z hz).1.stay hb (fun k e => by cases e; exact ⟨_, _, _, hk, by decide, by decide⟩), (h.2 z hz).2⟩⟩
theorem OwnR.to (h : OwnR w B v zs) (hb : Below w.heap.size w w') : OwnR w' B v zs :=
  ⟨World.ownsRow.kept (row := none) h.1 (gb_of hb) (by cases hh : v.ownBlock; exact .inl rfl; exact .inr (by simp)), fun z hz => ⟨(h.2 z hz).1.to hb, (h.2 z hz).2⟩⟩
theorem OwnW.to (h : OwnW w B v ys) (hb : Below w.heap.size w w') : OwnW w' B v ys :=
  ⟨World.ownsRow.kept (row := none) h.1 (gb_of hb) (by cases hh : v.ownBlock; exact .inl rfl; exact .inr (by simp)), fun z hz => ⟨(h.2 z hz).1.to hb, (h.2 z hz).2⟩⟩
theorem OwnR.rels {A : Option Addr} {n c : Nat} (h : OwnR w B (.slice A n c) zs) (hn : n = zs.length) : Rels w 0 A n (zs.map (·.1)) := by
  subst hn
  exact ⟨zs, rfl, reads_of_own h.1, h.2⟩
theorem OwnW.rule {A : Option Addr} {n c : Nat} (h : OwnW w B (.slice A n c) ys) (hn : n = ys.length) : Rule w 0 A n (ys.map (·.1)) := by
  subst hn
  exact ⟨ys, rfl, reads_of_own h.1, h.2⟩
/-- behind an append to the row under way -/
theorem OwnR.app {wa : World} {va : Value} {z : Rl × Sl} (h : OwnR w B v zs) (hs : Spans w 0 z.2.1 z.2.2.1 z.1.spans) (hn : z.2.2.1 ≤ 8796093022208) (hga : w.grownBy wa v.ownBlock) (hown : wa.ownsRow B 37 3 va (zs.length + 1) (zs.flatMap relC ++ relC z)) : OwnR wa B va (zs ++ [z]) := by
  have hr : ∀ k, v.ownBlock = some k → ∃ t cs fr, w.heap[k]? = some (.cells cs t fr) ∧ t ≠ 45 := fun k hk => by
    obtain ⟨cs, fr, h1⟩ := own_typed h.1 k hk
    exact ⟨_, cs, fr, h1, by decide⟩
  refine ⟨by simpa [List.flatMap_append] using hown, fun y hy => ?_⟩
  rcases List.mem_append.1 hy with hy | hy
  · exact ⟨(h.2 y hy).1.stay hga hr, (h.2 y hy).2⟩
  · rw [List.mem_singleton] at hy
    subst hy
    exact ⟨hs.stay hga hr, hn⟩
theorem OwnW.app {wa : World} {va : Value} {y : List Rl × Sl} (h : OwnW w B v ys) (hs : Rels w 0 y.2.1 y.2.2.1 y.1) (hn : y.2.2.1 ≤ 8796093022208) (hga : w.grownBy wa v.ownBlock) (hown : wa.ownsRow B 34 1 va (ys.length + 1) ((ys.map fun y => slV y.2) ++ [slV y.2])) : OwnW wa B va (ys ++ [y]) := by
  have hr : ∀ k, v.ownBlock = some k → ∃ t cs fr, w.heap[k]? = some (.cells cs t fr) ∧ t ≠ 45 ∧ t ≠ 37 := fun k hk => by
    obtain ⟨cs, fr, h1⟩ := own_typed h.1 k hk
    exact ⟨_, cs, fr, h1, by decide, by decide⟩
  refine ⟨by simpa using hown, fun x hx => ?_⟩
  rcases List.mem_append.1 hx with hx | hx
  · exact ⟨(h.2 x hx).1.stay hga hr, (h.2 x hx).2⟩
  · rw [List.mem_singleton] at hx
    subst hx
    exact ⟨hs.stay hga hr, hn⟩
/-- a row that begins -/
theorem OwnR.one {z : Rl × Sl} (hs : Spans w 0 z.2.1 z.2.2.1 z.1.spans) (hn : z.2.2.1 ≤ 8796093022208) : OwnR (w.alloc (.cells (relC z).toArray 37)) w.heap.size (.slice (some ⟨w.heap.size, 0, none⟩) 1 1) [z] := by
  have hown := World.ownsRow_lit (base := w.heap.size) (e := 37) (size := 3) w (relC z).toArray 1 (Nat.le_refl _) (by unfold maxLen; omega) (by simp [relC])
  refine ⟨by simpa using hown, fun x hx => ?_⟩
  rw [List.mem_singleton] at hx
  subst hx
  exact ⟨hs.to ((Below.refl _ _).alloc (Nat.le_refl _) _), hn⟩
end
theorem relJ : (Tryd.prog.info? 37).map (fun i => (i.zero, i.size, i.bytes)) = some (some (.agg #[.int .i64 0, .bool false, .slice none 0 0]), 3, 40) := by kernel_rfl
theorem rowJ : (Tryd.prog.info? 34).map (fun i => (i.zero, i.size, i.bytes)) = some (some (.slice none 0 0), 1, 24) := by kernel_rfl
theorem relC_one (z : Rl × Sl) : ∀ u ∈ relC z, u.oneCell' = true := by
  intro u hu
  simp only [relC, List.mem_cons, List.mem_nil_iff, or_false] at hu
  rcases hu with rfl | rfl | rfl <;> rfl
theorem slV_one (v : Sl) : ∀ u ∈ [slV v], u.oneCell' = true := by
  intro u hu
  rw [List.mem_singleton] at hu
  subst hu
  rfl
def RetP (w : World) (R : List (List Rl) × Int × Int) (e : Ending) (w' : World) : Prop :=
  ∃ A n c, e = .returned (.tuple #[.slice A n c, .int .i64 R.2.1, .int .i64 R.2.2]) ∧ Rule w' 0 A n R.1 ∧ n ≤ 8796093022208 ∧ Below w.heap.size w w'
theorem rule_none (w : World) : Rule w 0 none 0 [] := ⟨[], rfl, Reads.none_, fun z hz => by cases hz⟩
theorem parseLoop_end (sl : List UInt8) (f : Nat) (out : List (List Raw)) (row : List Raw) (st : St) (h : ¬ (st.bad = 0 ∧ st.at_ < sl.length)) : parseLoop sl f out row st = (out ++ [row], st) := by
  cases f with
  | zero => rfl
  | succ f => rw [parseLoop, if_neg h]
set_option maxRecDepth 100000 in
set_option maxHeartbeats 6400000 in
theorem Parse_any (s : ByteArray) (w : World) : Calls Tryd.prog 10 #[.string s] w (RetP w (parseF s.data.toList)) := by
  obtain ⟨sl, hsl⟩ : ∃ sl, s.data.toList = sl := ⟨_, rfl⟩
  have hlen : sl.length = s.size := by rw [← hsl]; simp
  by_cases hbig : 400 < s.size
  · have hR : parseF s.data.toList = ([], 2, 0) := by unfold parseF; rw [if_pos (by rw [hsl]; omega)]
    rw [hR]
    clear hR
    refine calls_of_wpQ Tryd.func10 rfl ?_
    intro Q hQ
    simp only [Tryd.ntmps10, List.size_toArray, List.length_cons, List.length_nil, Nat.reduceAdd, Nat.reduceSub, Array.replicate_succ, Array.replicate_zero, List.push_toArray, List.append_toArray, List.nil_append, List.cons_append]
    go_wp2
    refine ends_ret hQ (v := .tuple #[.slice none 0 0, .int .i64 2, .int .i64 0]) (by simp [results, Tryd.results10, go_sem]) rfl ?_
    exact ⟨none, 0, 0, rfl, rule_none _, by omega, Below.refl _ _⟩
  have hs : s.size ≤ 400 := by omega
  obtain ⟨R, hRe⟩ : ∃ R, parseF s.data.toList = R := ⟨_, rfl⟩
  obtain ⟨RW, hRW⟩ : ∃ RW, rawsS sl = RW := ⟨_, rfl⟩
  have hR : Hid (R = if RW.2.bad = 0 then (if ruleOk (ruleR RW.1) then (ruleR RW.1, 0, 0) else ([], 1, 0)) else ([], RW.2.bad, (RW.2.at_ : Int))) := by
    rw [Hid, ← hRe, hsl]; unfold parseF; rw [if_neg (by omega), hRW]
  rw [hRe]
  clear hRe
  obtain ⟨j0, hj0, hjz, hj1, hj2⟩ := info_partsK relJ
  obtain ⟨i0, hi0, hz0, hz1, hz2⟩ := info_partsK rowJ
  have hr0 : Rdr (w.alloc (.cells #[.string s, .int .i64 0, .int .i64 0] 50)) w.heap.size s ⟨0, 0⟩ := Blk.new w 50 #[.string s, .int .i64 0, .int .i64 0]
  have hB0 : Hid (Below w.heap.size w (w.alloc (.cells #[.string s, .int .i64 0, .int .i64 0] 50))) := (Below.refl _ _).alloc (Nat.le_refl _) _
  obtain ⟨⟨raw1, st1⟩, e1⟩ : ∃ q, relS sl ⟨0, 0⟩ = q := ⟨_, rfl⟩
  have hRW0 : Hid (RW = parseLoop sl (sl.length + 1) [] [raw1] st1) := by rw [Hid, ← hRW]; unfold rawsS; rw [e1]
  clear hRW
  replace e1 := hid_mk e1
  refine calls_of_wpQ Tryd.func10 rfl ?_
  intro Q hQ
  simp only [Tryd.ntmps10, List.size_toArray, List.length_cons, List.length_nil, Nat.reduceAdd, Nat.reduceSub, Array.replicate_succ, Array.replicate_zero, List.push_toArray, List.append_toArray, List.nil_append, List.cons_append]
  go_wp2_with fail
  refine (rrel_any s ⟨0, 0⟩ w.heap.size _ hs hr0).mono ?_
  rw [hsl, e1.out]
  rintro e w2 ⟨A, n, c, rfl, hS, hn, g2, hr2⟩
  dsimp only at *
  have hB2 : Hid (Below w.heap.size w w2) := hB0.out.grown g2 hB0.out.size (fun k e => by cases e; exact Nat.le_refl _)
  clear hB0 hr0
  have hz2s : w.heap.size < w2.heap.size := Blk.lt hr2
  have hOR2 : Hid (OwnR (w2.alloc (.cells #[.int .i64 (cMod raw1.mod), .bool raw1.not, .slice A n c] 37)) w2.heap.size (.slice (some ⟨w2.heap.size, 0, none⟩) 1 1) [(cRel raw1, (A, n, c))]) := OwnR.one (z := (cRel raw1, (A, n, c))) hS (by dsimp only; omega)
  have hOW2 : Hid (OwnW w2 (w.heap.size + 1) (.slice none 0 0) []) := ⟨World.ownsRow_nil _ _ _ _, fun y hy => by cases hy⟩
  have hr2' : Hid (Rdr (w2.alloc (.cells #[.int .i64 (cMod raw1.mod), .bool raw1.not, .slice A n c] 37)) w.heap.size s st1) := (Blk.alloc hr2 _ : Blk _ w.heap.size 50 _)
  have hB2' : Hid (Below w.heap.size w (w2.alloc (.cells #[.int .i64 (cMod raw1.mod), .bool raw1.not, .slice A n c] 37))) := hB2.out.alloc hB2.out.size _
  replace hr2 := hid_mk hr2
  replace hS := hid_mk hS
  go_wp2_with fail
  go_loopw [6, 7] (fun ov rv wr => ∃ (w0 : World) (ys : List (List Rl × Sl)) (zs : List (Rl × Sl)) (outr : List (List Raw)) (rowr : List Raw) (st st0 : St) (f : Nat), Hid (OwnW w0 (w.heap.size + 1) ov ys) ∧ Hid (Rdr w0 w.heap.size s st0) ∧ Hid (w0.grownBy wr (some w.heap.size)) ∧ Hid (OwnR wr w0.heap.size rv zs) ∧ Hid (Rdr wr w.heap.size s st) ∧ Hid (Below w.heap.size w wr) ∧ w.heap.size < w0.heap.size ∧ Hid (ys.map (·.1) = ruleR outr) ∧ Hid (zs.map (·.1) = rowr.map cRel) ∧ Hid (RW = parseLoop sl f outr rowr st) ∧ (st.bad = 0 → sl.length + 1 ≤ f + st.at_ ∧ ys.length + zs.length ≤ 2 * st.at_ + 2) ∧ ys.length + zs.length ≤ 804) (fun _ _ wr => match wr.cell? ⟨w.heap.size, 2, none⟩, wr.cell? ⟨w.heap.size, 1, none⟩ with | some (.int _ b), some (.int _ a) => if b = 0 then s.size + 1 - a.toNat else 0 | _, _ => 0)
  case atStart => exact ⟨w2, [], [(cRel raw1, (A, n, c))], [], [raw1], st1, st1, sl.length + 1, hOW2, hr2, gb_alloc (gb_refl _ _) _, hOR2, hr2', hB2', hz2s, rfl, rfl, hRW0, (fun _ => ⟨by omega, by simp⟩), by simp⟩
  case round =>
    clear hOR2 hOW2 hr2 hr2' hB2 hB2' hz2s hS hRW0 e1 hn
    obtain ⟨w0, ys, zs, outr, rowr, st, st0, f0, hOW, hr0, hG, hOR, hr, hB, hgw, hys, hzs, hRl, hcnt, hc402⟩ := hrel
    by_cases hgo : st.bad = 0 ∧ st.at_ < sl.length
    · obtain ⟨hb, hat⟩ := hgo
      obtain ⟨hf, hcn⟩ := hcnt hb
      obtain ⟨f, rfl⟩ : ∃ f, f0 = f + 1 := ⟨f0 - 1, by omega⟩
      have hmeas : Hid (∀ (wx : World) (st' : St), Rdr wx w.heap.size s st' → (st'.bad = 0 → st.at_ + 1 ≤ st'.at_) → (match wx.cell? ⟨w.heap.size, 2, none⟩, wx.cell? ⟨w.heap.size, 1, none⟩ with | some (.int _ b), some (.int _ a) => if b = 0 then s.size + 1 - a.toNat else 0 | _, _ => 0) < (match wr.cell? ⟨w.heap.size, 2, none⟩, wr.cell? ⟨w.heap.size, 1, none⟩ with | some (.int _ b), some (.int _ a) => if b = 0 then s.size + 1 - a.toNat else 0 | _, _ => 0)) := by
        intro wx st' hx hx2
        rw [hx.cells_.2.2.1, hx.cells_.2.2.2.1, hr.out.cells_.2.2.1, hr.out.cells_.2.2.2.1]
        dsimp only
        rw [if_pos hb]
        split
        · rename_i h0
          have := hx2 h0
          simp only [Int.toNat_natCast]
          exact Nat.sub_lt_sub_left (by omega : st.at_ < s.size + 1) (by omega)
        · simp only [Int.toNat_natCast]
          omega
      obtain ⟨x0, c0, c1, c2, f1, f2⟩ := hr.out.cells_
      rw [hb] at c2
      have k1 : (st.at_ : Int) < s.size := by omega
      obtain ⟨sta, ea⟩ : ∃ sta, mustS sl [32] st = sta := ⟨_, rfl⟩
      obtain ⟨stb, eb⟩ : ∃ stb, mustS sl [97, 110, 100, 32] sta = stb := ⟨_, rfl⟩
      obtain ⟨⟨rwb, stbb⟩, ebb⟩ : ∃ q, relS sl stb = q := ⟨_, rfl⟩
      obtain ⟨stc, ec⟩ : ∃ stc, mustS sl [111, 114, 32] sta = stc := ⟨_, rfl⟩
      obtain ⟨⟨rwc, stcc⟩, ecc⟩ : ∃ q, relS sl stc = q := ⟨_, rfl⟩
      have hokb : Hid (stbb.bad = 0 → st.at_ + 1 ≤ stbb.at_) := by
        have h1 := step_ok sl [97, 110, 100, 32] st
        rw [ea, eb, ebb] at h1
        exact fun h => (h1 h).2
      have hokc : Hid (stcc.bad = 0 → st.at_ + 1 ≤ stcc.at_) := by
        have h1 := step_ok sl [111, 114, 32] st
        rw [ea, ec, ecc] at h1
        exact fun h => (h1 h).2
      have hRn : Hid (RW = if isS sl 97 sta then parseLoop sl f outr (rowr ++ [rwb]) stbb else parseLoop sl f (outr ++ [rowr]) [rwc] stcc) := by
        rw [Hid, hRl.out, parseLoop, if_pos ⟨hb, hat⟩, ea, eb, ebb, ec, ecc]
      clear hRl
      replace ebb := hid_mk ebb
      replace ecc := hid_mk ecc
      go_wp2_with fail
      refine (must_any s ⟨#[32]⟩ st w.heap.size _ hs (by decide) (by decide) hr.out).mono ?_
      rw [show mustS s.data.toList (⟨#[32]⟩ : ByteArray).data.toList st = sta from by rw [hsl]; exact ea]
      rintro e w3 ⟨rfl, gN, hrN⟩
      replace hOR := hid_mk (hOR.out.kept hr.out gN hgw)
      replace hG := hid_mk (gb_trans hG.out gN)
      replace hB := hid_mk (hB.out.grown gN hB.out.size (fun k e => by cases e; exact Nat.le_refl _))
      replace hr := hid_mk hrN
      clear gN hrN
      clear x0 c0 c1 c2 f1 f2
      go_wp2_with fail
      refine (is_any s sta 97 w.heap.size _ hs hr.out).mono ?_
      rw [hsl]
      cases ha : isS sl 97 sta
      · have hRm : Hid (RW = parseLoop sl f (outr ++ [rowr]) [rwc] stcc) := by rw [Hid, hRn.out, ha]; rfl
        replace ha := hid_mk ha
        rintro e w4 ⟨rfl, hbN⟩
        replace hOR := hid_mk (hOR.out.to hbN)
        replace hG := hid_mk (gb_trans hG.out (gb_of hbN))
        replace hB := hid_mk (after (w := w) hbN hB.out).1
        replace hr := hid_mk (Rdr.keep hr.out hbN)
        clear hbN
        go_wp2_with fail
        refine (must_any s ⟨#[111, 114, 32]⟩ sta w.heap.size _ hs (by decide) (by decide) hr.out).mono ?_
        rw [show mustS s.data.toList (⟨#[111, 114, 32]⟩ : ByteArray).data.toList sta = stc from by rw [hsl]; exact ec]
        rintro e w5 ⟨rfl, gN, hrN⟩
        replace hOR := hid_mk (hOR.out.kept hr.out gN hgw)
        replace hG := hid_mk (gb_trans hG.out gN)
        replace hB := hid_mk (hB.out.grown gN hB.out.size (fun k e => by cases e; exact Nat.le_refl _))
        replace hr := hid_mk hrN
        clear gN hrN
        obtain ⟨Ar, cr, rfl, hk1, hk2⟩ := own_slice hOR.out.1
        have hrw := hid_mk (hOR.out.rels rfl)
        have hOW5 := hid_mk (hOW.out.kept hr0.out hG.out (by omega))
        obtain ⟨Ao, co, rfl, hk3, hk4⟩ := own_slice hOW5.out.1
        have q5 : Below w5.heap.size w5 (w5.alloc (.cells #[.slice Ar zs.length cr] 34)) := (Below.refl _ _).alloc (Nat.le_refl _) _
        have hOW6 := hid_mk (hOW5.out.to q5)
        have hrw6 := hid_mk (hrw.out.to q5)
        have hr6 : Hid (Rdr _ w.heap.size s stc) := Rdr.keep hr.out q5
        have hB6 : Hid (Below w.heap.size w (w5.alloc (.cells #[.slice Ar zs.length cr] 34))) := hB.out.alloc hB.out.size _
        have hnew := hid_mk (reads_new w5 #[.slice Ar zs.length cr] 34 1 1 0 rfl)
        have hbase : w.heap.size + 1 ≤ (w5.alloc (.cells #[.slice Ar zs.length cr] 34)).heap.size := by have := hB.out.size; rw [World.size_alloc]; omega
        have k63 : ys.length + 1 ≤ maxLen := by unfold maxLen; omega
        have kby : (ys.length + 1) * 24 ≤ 140737488355328 := by omega
        have hzl : zs.length ≤ 804 := by omega
        clear q5 hOW5 hrw hOW hr0 hG hOR
        go_wp2_with (at_builtin; refine wpList_append_any _ rfl (.tmp 44) (.tmp 46) 22 rfl (w.heap.size + 1) 34 i0 _ 1 24 Tryd.underlying22 hi0 hz0 hz1 hz2 rfl (by omega) (.slice Ao ys.length co) ys.length _ rfl hOW6.out.1 0 (some ⟨w5.heap.size, 0, none⟩) 1 1 [.slice Ar zs.length cr] (by simp [Act.eval]) hnew.out (slV_one (Ar, zs.length, cr)) k63 kby hbase ?_; intro va wa howna hga hat1)
        have hOWa := hid_mk (OwnW.app (y := (zs.map (·.1), (Ar, zs.length, cr))) hOW6.out hrw6.out (by dsimp only; omega) hga howna)
        have hra : Hid (Rdr wa w.heap.size s stc) := hr6.out.grown hga (fun e => by have := (World.ownsRow.lt hOW6.out.1 _ e.symm).1; omega)
        have hBa : Hid (Below w.heap.size w wa) := hB6.out.grown hga hB6.out.size (fun k e => by have := (World.ownsRow.lt hOW6.out.1 _ e).1; omega)
        clear hga howna hat1 hOW6 hrw6 hr6 hB6 hnew hr hB
        refine (rrel_any s stc w.heap.size _ hs hra.out).mono ?_
        rw [hsl, ecc.out]
        rintro e wb ⟨A, n, c, rfl, hS, hn, gN, hrN⟩
        dsimp only at *
        have hOWb := hid_mk (hOWa.out.kept hra.out gN (by omega))
        have hBb : Hid (Below w.heap.size w wb) := hBa.out.grown gN hBa.out.size (fun k e => by cases e; exact Nat.le_refl _)
        have hgb : w.heap.size < wb.heap.size := Blk.lt hrN
        have hOR2 : Hid (OwnR (wb.alloc (.cells #[.int .i64 (cMod rwc.mod), .bool rwc.not, .slice A n c] 37)) wb.heap.size (.slice (some ⟨wb.heap.size, 0, none⟩) 1 1) [(cRel rwc, (A, n, c))]) := OwnR.one (z := (cRel rwc, (A, n, c))) hS (by dsimp only; omega)
        have hr2 : Hid (Rdr (wb.alloc (.cells #[.int .i64 (cMod rwc.mod), .bool rwc.not, .slice A n c] 37)) w.heap.size s stcc) := (Blk.alloc hrN _ : Blk _ w.heap.size 50 _)
        have hB2 : Hid (Below w.heap.size w (wb.alloc (.cells #[.int .i64 (cMod rwc.mod), .bool rwc.not, .slice A n c] 37))) := hBb.out.alloc hBb.out.size _
        clear hOWa hra hBa
        replace hrN := hid_mk hrN
        replace hS := hid_mk hS
        go_wp2_with fail
        go_roundw
        case rel => exact ⟨wb, _, [(cRel rwc, (A, n, c))], outr ++ [rowr], [rwc], stcc, stcc, f, hOWb, hrN, gb_alloc (gb_refl _ _) _, hOR2, hr2, hB2, hgb, (by rw [Hid, List.map_append, hys.out]; simp [ruleR, hzs.out]), rfl, hRm, (fun h => by have := hokc.out h; simp; omega), by simp; omega⟩
        case measure => exact hmeas.out _ _ hr2.out hokc.out
      · have hRm : Hid (RW = parseLoop sl f outr (rowr ++ [rwb]) stbb) := by rw [Hid, hRn.out, ha]; rfl
        replace ha := hid_mk ha
        rintro e w4 ⟨rfl, hbN⟩
        replace hOR := hid_mk (hOR.out.to hbN)
        replace hG := hid_mk (gb_trans hG.out (gb_of hbN))
        replace hB := hid_mk (after (w := w) hbN hB.out).1
        replace hr := hid_mk (Rdr.keep hr.out hbN)
        clear hbN
        go_wp2_with fail
        refine (must_any s ⟨#[97, 110, 100, 32]⟩ sta w.heap.size _ hs (by decide) (by decide) hr.out).mono ?_
        rw [show mustS s.data.toList (⟨#[97, 110, 100, 32]⟩ : ByteArray).data.toList sta = stb from by rw [hsl]; exact eb]
        rintro e w5 ⟨rfl, gN, hrN⟩
        replace hOR := hid_mk (hOR.out.kept hr.out gN hgw)
        replace hG := hid_mk (gb_trans hG.out gN)
        replace hB := hid_mk (hB.out.grown gN hB.out.size (fun k e => by cases e; exact Nat.le_refl _))
        replace hr := hid_mk hrN
        clear gN hrN
        go_wp2_with fail
        refine (rrel_any s stb w.heap.size _ hs hr.out).mono ?_
        rw [hsl, ebb.out]
        rintro e w6 ⟨A, n, c, rfl, hS, hn, gN, hrN⟩
        dsimp only at *
        replace hOR := hid_mk (hOR.out.kept hr.out gN hgw)
        replace hG := hid_mk (gb_trans hG.out gN)
        replace hB := hid_mk (hB.out.grown gN hB.out.size (fun k e => by cases e; exact Nat.le_refl _))
        replace hr := hid_mk hrN
        clear gN hrN
        obtain ⟨Ar, cr, rfl, hk1, hk2⟩ := own_slice hOR.out.1
        have q5 : Below w6.heap.size w6 (w6.alloc (.cells #[.int .i64 (cMod rwb.mod), .bool rwb.not, .slice A n c] 37)) := (Below.refl _ _).alloc (Nat.le_refl _) _
        have hOR6 := hid_mk (hOR.out.to q5)
        have hS6 := hid_mk (hS.to q5)
        have hr6 : Hid (Rdr _ w.heap.size s stbb) := Rdr.keep hr.out q5
        have hB6 : Hid (Below w.heap.size w (w6.alloc (.cells #[.int .i64 (cMod rwb.mod), .bool rwb.not, .slice A n c] 37))) := hB.out.alloc hB.out.size _
        have hG6 : Hid (w0.grownBy (w6.alloc (.cells #[.int .i64 (cMod rwb.mod), .bool rwb.not, .slice A n c] 37)) (some w.heap.size)) := gb_alloc hG.out _
        have hnew := hid_mk (reads_new w6 #[.int .i64 (cMod rwb.mod), .bool rwb.not, .slice A n c] 37 1 3 0 rfl)
        have hbase : w0.heap.size ≤ (w6.alloc (.cells #[.int .i64 (cMod rwb.mod), .bool rwb.not, .slice A n c] 37)).heap.size := hG6.out.size
        have k63 : zs.length + 1 ≤ maxLen := by unfold maxLen; omega
        have kby : (zs.length + 1) * 40 ≤ 140737488355328 := by omega
        clear q5 hS hOR hr hB hG
        go_wp2_with (at_builtin; refine wpList_append_any _ rfl (.tmp 37) (.tmp 40) 34 rfl w0.heap.size 37 j0 _ 3 40 Tryd.underlying34 hj0 hjz hj1 hj2 rfl (by omega) (.slice Ar zs.length cr) zs.length _ rfl hOR6.out.1 0 (some ⟨w6.heap.size, 0, none⟩) 1 1 (relC (cRel rwb, (A, n, c))) (by simp [Act.eval]) hnew.out (relC_one (cRel rwb, (A, n, c))) k63 kby hbase ?_; intro va wa howna hga hat1)
        have hORa := hid_mk (OwnR.app (z := (cRel rwb, (A, n, c))) hOR6.out hS6.out (by dsimp only; omega) hga howna)
        have hra : Hid (Rdr wa w.heap.size s stbb) := hr6.out.grown hga (fun e => by have := (World.ownsRow.lt hOR6.out.1 _ e.symm).1; omega)
        have hBa : Hid (Below w.heap.size w wa) := hB6.out.grown hga hB6.out.size (fun k e => by have := (World.ownsRow.lt hOR6.out.1 _ e).1; omega)
        have hGa : Hid (w0.grownBy wa (some w.heap.size)) := gb_own hG6.out hga (fun i e => (World.ownsRow.lt hOR6.out.1 i e).1)
        clear hga howna hat1 hOR6 hr6 hB6 hnew hG6 hS6
        go_roundw
        case rel => exact ⟨w0, ys, zs ++ [(cRel rwb, (A, n, c))], outr, rowr ++ [rwb], stbb, st0, f, hOW, hr0, hGa, hORa, hra, hBa, hgw, hys, (by rw [Hid, List.map_append, hzs.out]; simp), hRm, (fun h => by have := hokb.out h; simp; omega), by simp; omega⟩
        case measure => exact hmeas.out _ _ hra.out hokb.out
    · have hRm : Hid (RW = (outr ++ [rowr], st)) := by rw [Hid, hRl.out, parseLoop_end _ _ _ _ _ hgo]
      obtain ⟨x0, c0, c1, c2, f1, f2⟩ := hr.out.cells_
      by_cases hb : st.bad = 0
      · have hat : ¬ (st.at_ : Int) < s.size := fun h => hgo ⟨hb, by omega⟩
        rw [hb] at c2
        have hRr : Hid (R = if ruleOk (ruleR (outr ++ [rowr])) then (ruleR (outr ++ [rowr]), 0, 0) else ([], 1, 0)) := by
          rw [Hid, hR.out, hRm.out]; exact if_pos hb
        obtain ⟨Ar, cr, rfl, hk1, hk2⟩ := own_slice hOR.out.1
        have hrw := hid_mk (hOR.out.rels rfl)
        have hOW5 := hid_mk (hOW.out.kept hr0.out hG.out (by omega))
        obtain ⟨Ao, co, rfl, hk3, hk4⟩ := own_slice hOW5.out.1
        have q5 : Below wr.heap.size wr (wr.alloc (.cells #[.slice Ar zs.length cr] 34)) := (Below.refl _ _).alloc (Nat.le_refl _) _
        have hOW6 := hid_mk (hOW5.out.to q5)
        have hrw6 := hid_mk (hrw.out.to q5)
        have hB6 : Hid (Below w.heap.size w (wr.alloc (.cells #[.slice Ar zs.length cr] 34))) := hB.out.alloc hB.out.size _
        have hnew := hid_mk (reads_new wr #[.slice Ar zs.length cr] 34 1 1 0 rfl)
        have hbase : w.heap.size + 1 ≤ (wr.alloc (.cells #[.slice Ar zs.length cr] 34)).heap.size := by have := hB.out.size; rw [World.size_alloc]; omega
        have k63 : ys.length + 1 ≤ maxLen := by unfold maxLen; omega
        have kby : (ys.length + 1) * 24 ≤ 140737488355328 := by omega
        clear q5 hOW5 hrw hOW hr0 hG hOR hcnt hgo
        go_wp2_with (at_builtin; refine wpList_append_any _ rfl (.tmp 64) (.tmp 66) 22 rfl (w.heap.size + 1) 34 i0 _ 1 24 Tryd.underlying22 hi0 hz0 hz1 hz2 rfl (by omega) (.slice Ao ys.length co) ys.length _ rfl hOW6.out.1 0 (some ⟨wr.heap.size, 0, none⟩) 1 1 [.slice Ar zs.length cr] (by simp [Act.eval]) hnew.out (slV_one (Ar, zs.length, cr)) k63 kby hbase ?_; intro va wa howna hga hat1)
        have hOWa := hid_mk (OwnW.app (y := (zs.map (·.1), (Ar, zs.length, cr))) hOW6.out hrw6.out (by dsimp only; omega) hga howna)
        have hBa : Hid (Below w.heap.size w wa) := hB6.out.grown hga hB6.out.size (fun k e => by have := (World.ownsRow.lt hOW6.out.1 _ e).1; omega)
        clear hga howna hat1 hOW6 hrw6 hB6 hnew x0 c0 c1 c2 f1 f2
        obtain ⟨Ax, cx, rfl, hk5, hk6⟩ := own_slice hOWa.out.1
        have hru : Rule wa 0 Ax (ys ++ [(zs.map (·.1), (Ar, zs.length, cr))]).length (ruleR (outr ++ [rowr])) := by
          have h1 := hOWa.out.rule rfl
          rw [List.map_append, hys.out] at h1
          simpa [ruleR, hzs.out] using h1
        replace hru := hid_mk hru
        have hll : (ys ++ [(zs.map (·.1), ((Ar, zs.length, cr) : Sl))]).length ≤ 8796093022208 := by simp; omega
        refine (Right_any _ Ax _ cx _ 0 hll hru.out).mono ?_
        cases hok : ruleOk (ruleR (outr ++ [rowr]))
        · have hRz : Hid (R = ([], 1, 0)) := by rw [Hid, hRr.out, hok]; rfl
          rintro e wb ⟨rfl, hb9⟩
          have q9 := hid_mk (after (w := w) hb9 hBa.out).1
          clear hb9
          go_wp2
          refine ends_ret hQ (v := .tuple #[.slice none 0 0, .int .i64 1, .int .i64 0]) (by simp [results, Tryd.results10, go_sem]) rfl ?_
          exact ⟨none, 0, 0, by rw [hRz.out], by rw [hRz.out]; exact rule_none _, by omega, q9.out⟩
        · have hRz : Hid (R = (ruleR (outr ++ [rowr]), 0, 0)) := by rw [Hid, hRr.out, hok]; rfl
          rintro e wb ⟨rfl, hb9⟩
          have q9 := hid_mk (after (w := w) hb9 hBa.out).1
          have hru9 := hid_mk (hru.out.to hb9)
          clear hb9
          go_wp2
          refine ends_ret hQ (v := .tuple #[.slice Ax (ys ++ [(zs.map (·.1), ((Ar, zs.length, cr) : Sl))]).length cx, .int .i64 0, .int .i64 0]) (by simp [results, Tryd.results10, go_sem]) rfl ?_
          exact ⟨Ax, _, cx, by rw [hRz.out], by rw [hRz.out]; exact hru9.out, hll, q9.out⟩
      · have hRz : Hid (R = ([], st.bad, (st.at_ : Int))) := by rw [Hid, hR.out, hRm.out]; exact if_neg hb
        have hbb : (st.bad == 0) = false := by simpa using hb
        have hbn : (st.bad != 0) = true := by simpa using hb
        clear hgo hcnt
        go_wp2
        go_quiet (fail)
        all_goals go_wp2
        all_goals
          refine ends_ret hQ (v := .tuple #[.slice none 0 0, .int .i64 st.bad, .int .i64 st.at_]) (by simp [results, Tryd.results10, go_sem]) rfl ?_
          exact ⟨none, 0, 0, by rw [hRz.out], by rw [hRz.out]; exact rule_none _, by omega, below_drewN hB.out _⟩
end Go.Proofs.YtfafinnklniniaaDoor
