/-
  WHAT IS PROVED HERE: what the reference's Parse hands back. No condition.
-/
import Derived.Test.YtfafinnklniniaaPluU
import Derived.Test.YtfafinnklniniaaPlu7
import Derived.Test.YtfafinnklniniaaPlu9
import Derived.Deep.RegionLaw
namespace Go.Proofs.Ytfafinnklniniaa
open Go.RowKit

/-- the blocks of relations and spans that were there are as they were -/
def TF (w w' : World) : Prop := ∀ (i : Nat) cs t fr, w.heap[i]? = some (.cells cs t fr) → t = 42 ∨ t = 52 → w'.heap[i]? = some (.cells cs t fr)
theorem lt_of_heap {w : World} {i : Nat} {o : Obj} (h : w.heap[i]? = some o) : i < w.heap.size := (Array.getElem?_eq_some_iff.1 h).1
theorem TF.refl (w : World) : TF w w := fun _ _ _ _ h _ => h
theorem TF.step {w a b : World} {row : Option Nat} (h : TF w a) (hg : a.grownBy b row) (hr : ∀ k, row = some k → (∃ cs t fr, a.heap[k]? = some (.cells cs t fr) ∧ t ≠ 42 ∧ t ≠ 52) ∨ w.heap.size ≤ k) : TF w b := by
  intro i cs t fr hi ht
  have h1 := h i cs t fr hi ht
  have hlt := lt_of_heap h1
  refine (hg.block i hlt (fun e => ?_)).trans h1
  rcases hr i e.symm with ⟨cs', t', fr', a1, a2, a3⟩ | h2
  · rw [a1] at h1
    injection h1 with h1
    injection h1 with _ h4
    rcases ht with rfl | rfl
    · exact a2 h4
    · exact a3 h4
  · have := lt_of_heap hi
    omega
theorem TF.alloc {w a : World} (h : TF w a) (o : Obj) : TF w (a.alloc o) := h.step (World.grownBy_alloc a o none) (fun k e => by cases e)
theorem TF.quiet {w a b : World} (h : TF w a) (hb : Below a.heap.size a b) : TF w b := h.step (gb_of (row := none) hb) (fun k e => by cases e)
theorem TF.reads {w w' : World} {e : TypeId} {size n : Nat} {A : Option Addr} {xs : List Value} (h : TF w w') (he : e = 42 ∨ e = 52) (hr : Reads w 0 e size A n xs) : Reads w' 0 e size A n xs :=
  ⟨hr.1, fun hn => by
    obtain ⟨b, o, ea, hlt, ht, hc⟩ := hr.2 hn
    rcases ht with ht | ⟨cs, fr, ht⟩
    · omega
    have h1 := h b cs e fr ht he
    exact ⟨b, o, ea, lt_of_heap h1, .inr ⟨cs, fr, h1⟩, fun j u hu => (World.cell?_of_block (a := ⟨b, o + j, none⟩) (h1.trans ht.symm)).trans (hc j u hu)⟩⟩
theorem TF.rels {w w' : World} {n : Nat} {A : Option Addr} {l : List Rl} (h : TF w w') (hr : Rels w 0 A n l) : Rels w' 0 A n l := by
  obtain ⟨zs, h0, h1, h2⟩ := hr
  exact ⟨zs, h0, h.reads (.inl rfl) h1, fun z hz => ⟨h.reads (.inr rfl) (h2 z hz).1, (h2 z hz).2⟩⟩
/-- no block of relations or spans -/
def Off (w : World) (row : Option Nat) : Prop := ∀ k, row = some k → ∃ cs t fr, w.heap[k]? = some (.cells cs t fr) ∧ t ≠ 42 ∧ t ≠ 52
theorem own_off {w : World} {B : Nat} {e : TypeId} {size n : Nat} {v : Value} {xs : List Value} (h : w.ownsRow B e size v n xs) {w' : World} {row : Option Nat} (hg : w.grownBy w' row) (hr : ∀ k, row = some k → ∃ cs t fr, w.heap[k]? = some (.cells cs t fr) ∧ t ≠ e) : w'.ownsRow B e size v n xs := by
  cases hv : v.ownBlock with
  | none => exact World.ownsRow.kept h hg (.inl hv)
  | some k =>
    refine World.ownsRow.kept h hg (.inr (fun e1 => ?_))
    rw [hv] at e1
    obtain ⟨cs, fr, h1⟩ := own_typed h k hv
    obtain ⟨cs', t, fr', h2, h3⟩ := hr k e1.symm
    rw [h1] at h2
    injection h2 with h2
    injection h2 with _ h4
    exact h3 h4.symm
section
variable {w w' : World} {B : Nat} {v : Value} {zs : List (Rl × Sl)} {row : Option Nat}
theorem OwnR.off (h : OwnR w B v zs) (hg : w.grownBy w' row) (hr : Off w row) : OwnR w' B v zs :=
  ⟨own_off h.1 hg (fun k hk => by obtain ⟨cs, t, fr, a, b, _⟩ := hr k hk; exact ⟨cs, t, fr, a, b⟩), fun z hz => ⟨(h.2 z hz).1.stay hg (fun k hk => by obtain ⟨cs, t, fr, a, _, c⟩ := hr k hk; exact ⟨t, cs, fr, a, c⟩), (h.2 z hz).2⟩⟩
theorem RP.off {g : Nat} {s : ByteArray} {st : St} {may : Bool} (h : RP w g s st may) : Off w (some g) := fun k e => by
  cases e
  exact ⟨_, _, _, h, by decide, by decide⟩
theorem RP.offr {g : Nat} {s : ByteArray} {st : St} {may : Bool} (h : RP w g s st may) : ∀ k, some g = some k → ∃ cs t fr, w.heap[k]? = some (.cells cs t fr) ∧ t ≠ 44 := fun k e => by
  cases e
  exact ⟨_, _, _, h, by decide⟩
theorem own_offrow {n : Nat} {xs : List Value} (h : w.ownsRow B 44 1 v n xs) : Off w v.ownBlock := fun k hk => by
  obtain ⟨cs, fr, h1⟩ := own_typed h k hk
  exact ⟨cs, _, fr, h1, by decide, by decide⟩
end
theorem own_some {w : World} {B : Nat} {e : TypeId} {size n : Nat} {v : Value} {xs : List Value} (h : w.ownsRow B e size v n xs) (hn : 0 < n) : ∃ g cap, v = .slice (some ⟨g, 0, none⟩) n cap := by
  rcases h.2 with ⟨_, h0⟩ | ⟨g, cap, cur, hv, _⟩
  · omega
  · exact ⟨g, cap, hv⟩
theorem mayAll_snoc (out : List (List Raw)) (row : List Raw) : mayAll (out ++ [row]) = (mayAll out && row.all mayR) := by unfold mayAll; rw [List.all_append, List.all_cons, List.all_nil, Bool.and_true]
set_option maxRecDepth 100000 in
set_option maxHeartbeats 6400000 in
theorem RParse_any (s : ByteArray) (w : World) : Calls Try.prog 8 #[.string s] w (RetP w (parseP s.data.toList)) := by
  obtain ⟨sl, hsl⟩ : ∃ sl, s.data.toList = sl := ⟨_, rfl⟩
  have hlen : sl.length = s.size := by rw [← hsl]; simp
  by_cases hbig : 400 < s.size
  · have hR : parseP s.data.toList = ([], 2, 0) := by unfold parseP; rw [if_pos (by rw [hsl]; omega)]
    rw [hR]
    clear hR
    refine calls_of_wpQ Try.func8 rfl ?_
    intro Q hQ
    simp only [Try.ntmps8, List.size_toArray, List.length_cons, List.length_nil, Nat.reduceAdd, Nat.reduceSub, Array.replicate_succ, Array.replicate_zero, List.push_toArray, List.append_toArray, List.nil_append, List.cons_append]
    go_wp2
    refine ends_ret hQ (v := .tuple #[.slice none 0 0, .int .i64 2, .int .i64 0]) (by simp [results, Try.results8, go_sem]) rfl ?_
    exact ⟨none, 0, 0, rfl, rule_none _, by omega, Below.refl _ _⟩
  have hs : s.size ≤ 400 := by omega
  obtain ⟨R, hRe⟩ : ∃ R, parseP s.data.toList = R := ⟨_, rfl⟩
  obtain ⟨RW, hRW⟩ : ∃ RW, rawsS sl = RW := ⟨_, rfl⟩
  have hR : Hid (R = if RW.2.bad = 0 then (if (mayAll RW.1 && ruleOk (ruleP RW.1)) = true then (ruleP RW.1, 0, 0) else ([], 1, 0)) else ([], RW.2.bad, (RW.2.at_ : Int))) := by
    rw [Hid, ← hRe, hsl]; unfold parseP; rw [if_neg (by omega), hRW]
  rw [hRe]
  clear hRe
  obtain ⟨j0, hj0, hjz, hj1, hj2⟩ := info_partsK relJ
  obtain ⟨i0, hi0, hz0, hz1, hz2⟩ := info_partsK rowJ
  have hr0 : RP (w.alloc (.cells #[.string s, .int .i64 0, .int .i64 0, .bool true] 49)) w.heap.size s ⟨0, 0⟩ true := Blk.new w 49 #[.string s, .int .i64 0, .int .i64 0, .bool true]
  have hB0 : Hid (Below w.heap.size w (w.alloc (.cells #[.string s, .int .i64 0, .int .i64 0, .bool true] 49))) := (Below.refl _ _).alloc (Nat.le_refl _) _
  obtain ⟨⟨raw1, st1⟩, e1⟩ : ∃ q, relS sl ⟨0, 0⟩ = q := ⟨_, rfl⟩
  have hRW0 : Hid (RW = parseLoop sl (sl.length + 1) [] [raw1] st1) := by rw [Hid, ← hRW]; unfold rawsS; rw [e1]
  clear hRW
  replace e1 := hid_mk e1
  refine calls_of_wpQ Try.func8 rfl ?_
  intro Q hQ
  simp only [Try.ntmps8, List.size_toArray, List.length_cons, List.length_nil, Nat.reduceAdd, Nat.reduceSub, Array.replicate_succ, Array.replicate_zero, List.push_toArray, List.append_toArray, List.nil_append, List.cons_append]
  go_wp2_with fail
  refine (prel_any s ⟨0, 0⟩ true w.heap.size _ hs hr0).mono ?_
  rw [hsl, e1.out]
  rintro e w2 ⟨A, n, c, rfl, hS, hn, g2, hr2⟩
  dsimp only at *
  rw [Bool.true_and] at hr2
  have hB2 : Hid (Below w.heap.size w w2) := hB0.out.grown g2 hB0.out.size (fun k e => by cases e; exact Nat.le_refl _)
  clear hB0 hr0
  have hz2s : w.heap.size < w2.heap.size := Blk.lt hr2
  obtain ⟨w3, hw3⟩ : ∃ w3, w2.alloc (.cells #[.int .i64 (rMod raw1.mod), .bool raw1.not, .slice A n c] 42) = w3 := ⟨_, rfl⟩
  have hY := blk3 (Blk.new w2 42 #[.int .i64 (rMod raw1.mod), .bool raw1.not, .slice A n c])
  have hz3 : w3.heap.size = w2.heap.size + 1 := by rw [← hw3, World.size_alloc]
  have b3 : Below w2.heap.size w2 w3 := by rw [← hw3]; exact (Below.refl _ _).alloc (Nat.le_refl _) _
  have hOR3 : OwnR (w3.alloc (.cells #[.int .i64 (rMod raw1.mod), .bool raw1.not, .slice A n c] 42)) w3.heap.size (.slice (some ⟨w3.heap.size, 0, none⟩) 1 1) [(rRel raw1, (A, n, c))] := OwnR.one (z := (rRel raw1, (A, n, c))) (hS.to b3) (by dsimp only; omega)
  have hO3 := World.ownsRow_lit (base := w.heap.size + 1) (e := 44) (size := 1) (w3.alloc (.cells #[.int .i64 (rMod raw1.mod), .bool raw1.not, .slice A n c] 42)) #[.slice (some ⟨w3.heap.size, 0, none⟩) 1 1] 1 (by rw [World.size_alloc]; omega) (by unfold maxLen; omega) rfl
  have b4 : Below (w3.alloc (.cells #[.int .i64 (rMod raw1.mod), .bool raw1.not, .slice A n c] 42)).heap.size (w3.alloc (.cells #[.int .i64 (rMod raw1.mod), .bool raw1.not, .slice A n c] 42)) ((w3.alloc (.cells #[.int .i64 (rMod raw1.mod), .bool raw1.not, .slice A n c] 42)).alloc (.cells #[.slice (some ⟨w3.heap.size, 0, none⟩) 1 1] 44)) := (Below.refl _ _).alloc (Nat.le_refl _) _
  have hOR4 := hid_mk (hOR3.to b4)
  have hT4 := hid_mk (((TF.refl w3).alloc (.cells #[.int .i64 (rMod raw1.mod), .bool raw1.not, .slice A n c] 42)).alloc (.cells #[.slice (some ⟨w3.heap.size, 0, none⟩) 1 1] 44))
  have hr4 := hid_mk (((RP.keep hr2 b3).keep (w' := w3.alloc (.cells #[.int .i64 (rMod raw1.mod), .bool raw1.not, .slice A n c] 42)) ((Below.refl _ _).alloc (Nat.le_refl _) _)).keep b4)
  have hB3 := after (w := w) b3 hB2.out
  have hB4 : Hid (Below w.heap.size w ((w3.alloc (.cells #[.int .i64 (rMod raw1.mod), .bool raw1.not, .slice A n c] 42)).alloc (.cells #[.slice (some ⟨w3.heap.size, 0, none⟩) 1 1] 44))) := (hB3.1.alloc hB3.1.size _).alloc (by rw [World.size_alloc]; have := hB3.1.size; omega) _
  rw [World.size_alloc] at hO3
  replace hO3 := hid_mk hO3
  rw [hw3] at hY
  obtain ⟨y0, y1, y2, y3⟩ := hY
  clear b3 b4 hOR3 hB3 hr2
  replace hS := hid_mk hS
  replace hz3 := hid_mk hz3
  go_wp2_with fail
  clear y0 y1 y2 y3 hw3
  go_loopw [7] (fun ov wr => ∃ (w0 : World) (ys : List (List Rl × Sl)) (zs : List (Rl × Sl)) (vl : Sl) (outr : List (List Raw)) (rowr : List Raw) (st : St) (may : Bool) (f : Nat),
    Hid (wr.ownsRow (w.heap.size + 1) 44 1 ov (ys.length + 1) ((ys.map fun y => slV y.2) ++ [slV vl])) ∧ Hid (TF w0 wr) ∧ Hid (∀ y ∈ ys, Rels w0 0 y.2.1 y.2.2.1 y.1 ∧ y.2.2.1 ≤ 8796093022208) ∧ Hid (OwnR wr w0.heap.size (slV vl) zs) ∧ Hid (RP wr w.heap.size s st may) ∧ Hid (Below w.heap.size w wr) ∧ w.heap.size < w0.heap.size ∧ w0.heap.size ≤ wr.heap.size ∧
    Hid (ys.map (·.1) = ruleP outr) ∧ Hid (zs.map (·.1) = rowr.map rRel) ∧ Hid (may = (mayAll outr && rowr.all mayR)) ∧ Hid (RW = parseLoop sl f outr rowr st) ∧ (st.bad = 0 → sl.length + 1 ≤ f + st.at_ ∧ ys.length + zs.length ≤ 2 * st.at_ + 2) ∧ ys.length + zs.length ≤ 804) (fun _ wr => match wr.cell? ⟨w.heap.size, 2, none⟩, wr.cell? ⟨w.heap.size, 1, none⟩ with | some (.int _ b), some (.int _ a) => if b = 0 then s.size + 1 - a.toNat else 0 | _, _ => 0)
  case atStart => exact ⟨w3, [], [(rRel raw1, (A, n, c))], (some ⟨w3.heap.size, 0, none⟩, 1, 1), [], [raw1], st1, mayR raw1, sl.length + 1, hO3, hT4, (fun y hy => by cases hy), hOR4, hr4, hB4, by have := hz3.out; omega, by rw [World.size_alloc, World.size_alloc]; omega, rfl, rfl, (by rw [Hid]; simp [mayAll]), hRW0, (fun _ => ⟨by omega, by simp⟩), by simp⟩
  case round =>
    clear hO3 hT4 hOR4 hr4 hB4 hRW0 e1 hn hz3 hS hB2 hz2s
    obtain ⟨w0, ys, zs, vl, outr, rowr, st, may, f0, hO, hT, hYS, hOR, hr, hB, hgw, hw0s, hys, hzs, hmay, hRl, hcnt, hc804⟩ := hrel
    obtain ⟨go, co, rfl⟩ := own_some hO.out (by omega)
    by_cases hgoon : st.bad = 0 ∧ st.at_ < sl.length
    · obtain ⟨hb, hat⟩ := hgoon
      obtain ⟨hf, hcn⟩ := hcnt hb
      obtain ⟨f, rfl⟩ : ∃ f, f0 = f + 1 := ⟨f0 - 1, by omega⟩
      have hmeas : Hid (∀ (wx : World) (st' : St) (m' : Bool), RP wx w.heap.size s st' m' → (st'.bad = 0 → st.at_ + 1 ≤ st'.at_) → (match wx.cell? ⟨w.heap.size, 2, none⟩, wx.cell? ⟨w.heap.size, 1, none⟩ with | some (.int _ b), some (.int _ a) => if b = 0 then s.size + 1 - a.toNat else 0 | _, _ => 0) < (match wr.cell? ⟨w.heap.size, 2, none⟩, wr.cell? ⟨w.heap.size, 1, none⟩ with | some (.int _ b), some (.int _ a) => if b = 0 then s.size + 1 - a.toNat else 0 | _, _ => 0)) := by
        intro wx st' m' hx hx2
        rw [hx.cells_.2.2.1, hx.cells_.2.2.2.1, hr.out.cells_.2.2.1, hr.out.cells_.2.2.2.1]
        dsimp only
        rw [if_pos hb]
        split
        · rename_i h0
          have := hx2 h0
          simp only [Int.toNat_natCast]
          exact Nat.sub_lt_sub_left (by omega : st.at_ < s.size + 1) (by omega)
        · simp only [Int.toNat_natCast]
          omega
      obtain ⟨x0, c0, c1, c2, c3, f1, f2, f3⟩ := hr.out.cells_
      rw [hb] at c2
      have k1 : (st.at_ : Int) < s.size := by omega
      obtain ⟨sta, ea⟩ : ∃ sta, mustS sl [32] st = sta := ⟨_, rfl⟩
      obtain ⟨stb, eb⟩ : ∃ stb, mustS sl [97, 110, 100, 32] sta = stb := ⟨_, rfl⟩
      obtain ⟨⟨rwb, stbb⟩, ebb⟩ : ∃ q, relS sl stb = q := ⟨_, rfl⟩
      obtain ⟨stc, ec⟩ : ∃ stc, mustS sl [111, 114, 32] sta = stc := ⟨_, rfl⟩
      obtain ⟨⟨rwc, stcc⟩, ecc⟩ : ∃ q, relS sl stc = q := ⟨_, rfl⟩
      have hokb : Hid (stbb.bad = 0 → st.at_ + 1 ≤ stbb.at_) := by
        have h1 := step_ok sl [97, 110, 100, 32] st
        rw [ea, eb, ebb] at h1
        exact fun h => (h1 h).2
      have hokc : Hid (stcc.bad = 0 → st.at_ + 1 ≤ stcc.at_) := by
        have h1 := step_ok sl [111, 114, 32] st
        rw [ea, ec, ecc] at h1
        exact fun h => (h1 h).2
      have hRn : Hid (RW = if isS sl 97 sta then parseLoop sl f outr (rowr ++ [rwb]) stbb else parseLoop sl f (outr ++ [rowr]) [rwc] stcc) := by
        rw [Hid, hRl.out, parseLoop, if_pos ⟨hb, hat⟩, ea, eb, ebb, ec, ecc]
      clear hRl
      replace ebb := hid_mk ebb
      replace ecc := hid_mk ecc
      go_wp2_with fail
      refine (take_any s ⟨#[32]⟩ st may w.heap.size _ hs (by decide) (by decide) hr.out).mono ?_
      rw [show mustS s.data.toList (⟨#[32]⟩ : ByteArray).data.toList st = sta from by rw [hsl]; exact ea]
      rintro e w3 ⟨rfl, gN, hrN⟩
      replace hO := hid_mk (own_off hO.out gN hr.out.offr)
      replace hOR := hid_mk (hOR.out.off gN hr.out.off)
      replace hT := hid_mk (hT.out.step gN (fun k e => .inl (hr.out.off k e)))
      replace hB := hid_mk (hB.out.grown gN hB.out.size (fun k e => by cases e; exact Nat.le_refl _))
      replace hr := hid_mk hrN
      replace hw0s := Nat.le_trans hw0s gN.size
      clear gN hrN
      clear x0 c0 c1 c2 c3 f1 f2 f3
      obtain ⟨N1, hN1⟩ : ∃ N1, nowS sl sta = N1 := ⟨_, rfl⟩
      have hI1 : isS sl 97 sta = (N1 == 97) := by rw [now_is, hN1]; rfl
      go_wp2_with fail
      refine (now_any s sta may w.heap.size _ hr.out).mono ?_
      rw [hsl, hN1]
      replace hN1 := hid_mk hN1
      cases ha : isS sl 97 sta
      · have hRm : Hid (RW = parseLoop sl f (outr ++ [rowr]) [rwc] stcc) := by rw [Hid, hRn.out, ha]; rfl
        rw [ha] at hI1
        have hb97 := hI1.symm
        clear hI1
        replace ha := hid_mk ha
        rintro e w4 ⟨rfl, hbN⟩
        replace hO := hid_mk (own_off hO.out (gb_of (row := none) hbN) (fun k e => by cases e))
        replace hOR := hid_mk (hOR.out.to hbN)
        replace hT := hid_mk (hT.out.quiet hbN)
        replace hB := hid_mk (after (w := w) hbN hB.out).1
        replace hr := hid_mk (RP.keep hr.out hbN)
        replace hw0s := Nat.le_trans hw0s hbN.size
        clear hbN
        go_wp2_with fail
        refine (take_any s ⟨#[111, 114, 32]⟩ sta may w.heap.size _ hs (by decide) (by decide) hr.out).mono ?_
        rw [show mustS s.data.toList (⟨#[111, 114, 32]⟩ : ByteArray).data.toList sta = stc from by rw [hsl]; exact ec]
        rintro e w5 ⟨rfl, gN, hrN⟩
        replace hO := hid_mk (own_off hO.out gN hr.out.offr)
        replace hOR := hid_mk (hOR.out.off gN hr.out.off)
        replace hT := hid_mk (hT.out.step gN (fun k e => .inl (hr.out.off k e)))
        replace hB := hid_mk (hB.out.grown gN hB.out.size (fun k e => by cases e; exact Nat.le_refl _))
        replace hr := hid_mk hrN
        replace hw0s := Nat.le_trans hw0s gN.size
        clear gN hrN
        go_wp2_with fail
        refine (prel_any s stc may w.heap.size _ hs hr.out).mono ?_
        rw [hsl, ecc.out]
        rintro e w6 ⟨A, n, c, rfl, hS, hn, gN, hrN⟩
        dsimp only at *
        replace hO := hid_mk (own_off hO.out gN hr.out.offr)
        replace hOR := hid_mk (hOR.out.off gN hr.out.off)
        replace hT := hid_mk (hT.out.step gN (fun k e => .inl (hr.out.off k e)))
        replace hB := hid_mk (hB.out.grown gN hB.out.size (fun k e => by cases e; exact Nat.le_refl _))
        replace hr := hid_mk hrN
        replace hw0s := Nat.le_trans hw0s gN.size
        clear gN hrN
        obtain ⟨w7, hw7⟩ : ∃ w7, w6.alloc (.cells #[.int .i64 (rMod rwc.mod), .bool rwc.not, .slice A n c] 42) = w7 := ⟨_, rfl⟩
        have hY := blk3 (Blk.new w6 42 #[.int .i64 (rMod rwc.mod), .bool rwc.not, .slice A n c])
        rw [hw7] at hY
        obtain ⟨u0, u1, u2, u3⟩ := hY
        have hz7 : w7.heap.size = w6.heap.size + 1 := by rw [← hw7, World.size_alloc]
        have hbN : Below w6.heap.size w6 w7 := by rw [← hw7]; exact (Below.refl _ _).alloc (Nat.le_refl _) _
        have hS7 := hS.to hbN
        replace hO := hid_mk (own_off hO.out (gb_of (row := none) hbN) (fun k e => by cases e))
        replace hOR := hid_mk (hOR.out.to hbN)
        replace hT := hid_mk (hT.out.quiet hbN)
        replace hB := hid_mk (after (w := w) hbN hB.out).1
        replace hr := hid_mk (RP.keep hr.out hbN)
        replace hw0s := Nat.le_trans hw0s hbN.size
        clear hbN
        -- at w7
        have hvl : vl.2.1 = zs.length := by
          obtain ⟨Ar, cr, h1, _⟩ := own_slice hOR.out.1
          unfold slV at h1
          injection h1
        have hrw : Rels w7 0 vl.1 vl.2.1 (zs.map (·.1)) := by
          have h1 := hOR.out
          unfold slV at h1
          exact h1.rels hvl
        have hYS7 : Hid (∀ y ∈ ys ++ [(zs.map (·.1), vl)], Rels w7 0 y.2.1 y.2.2.1 y.1 ∧ y.2.2.1 ≤ 8796093022208) := by
          intro y hy
          rcases List.mem_append.1 hy with hy | hy
          · exact ⟨hT.out.rels (hYS.out y hy).1, (hYS.out y hy).2⟩
          · rw [List.mem_singleton] at hy
            subst hy
            exact ⟨hrw, by dsimp only; omega⟩
        have hOR7 : OwnR (w7.alloc (.cells #[.int .i64 (rMod rwc.mod), .bool rwc.not, .slice A n c] 42)) w7.heap.size (.slice (some ⟨w7.heap.size, 0, none⟩) 1 1) [(rRel rwc, (A, n, c))] := OwnR.one (z := (rRel rwc, (A, n, c))) hS7 (by dsimp only; omega)
        have b8 : Below w7.heap.size w7 (w7.alloc (.cells #[.int .i64 (rMod rwc.mod), .bool rwc.not, .slice A n c] 42)) := (Below.refl _ _).alloc (Nat.le_refl _) _
        have b9 : Below (w7.alloc (.cells #[.int .i64 (rMod rwc.mod), .bool rwc.not, .slice A n c] 42)).heap.size (w7.alloc (.cells #[.int .i64 (rMod rwc.mod), .bool rwc.not, .slice A n c] 42)) ((w7.alloc (.cells #[.int .i64 (rMod rwc.mod), .bool rwc.not, .slice A n c] 42)).alloc (.cells #[.slice (some ⟨w7.heap.size, 0, none⟩) 1 1] 44)) := (Below.refl _ _).alloc (Nat.le_refl _) _
        have hOR9 := hid_mk (hOR7.to b9)
        have hO9 := hid_mk ((hO.out.alloc (.cells #[.int .i64 (rMod rwc.mod), .bool rwc.not, .slice A n c] 42)).alloc (.cells #[.slice (some ⟨w7.heap.size, 0, none⟩) 1 1] 44))
        have hr9 := hid_mk ((RP.keep hr.out b8).keep b9)
        have hB8 := (after (w := w) b8 hB.out).1
        have hB9 := hid_mk (after (w := w) b9 hB8).1
        have hT9 := hid_mk (((TF.refl w7).alloc (.cells #[.int .i64 (rMod rwc.mod), .bool rwc.not, .slice A n c] 42)).alloc (.cells #[.slice (some ⟨w7.heap.size, 0, none⟩) 1 1] 44))
        have hnew0 := reads_new (w7.alloc (.cells #[.int .i64 (rMod rwc.mod), .bool rwc.not, .slice A n c] 42)) #[.slice (some ⟨w7.heap.size, 0, none⟩) 1 1] 44 1 1 0 rfl
        rw [World.size_alloc] at hnew0
        have hnew := hid_mk hnew0
        have hgb : w.heap.size < w7.heap.size := by have := hB.out.size; have := (Blk.lt hr.out); omega
        have hbase : w.heap.size + 1 ≤ ((w7.alloc (.cells #[.int .i64 (rMod rwc.mod), .bool rwc.not, .slice A n c] 42)).alloc (.cells #[.slice (some ⟨w7.heap.size, 0, none⟩) 1 1] 44)).heap.size := by rw [World.size_alloc, World.size_alloc]; omega
        have k63 : ys.length + 1 + 1 ≤ maxLen := by unfold maxLen; omega
        have kby : (ys.length + 1 + 1) * 24 ≤ 140737488355328 := by omega
        clear b8 b9 hOR7 hB8 hnew0 hrw hS7
        replace hz7 := hid_mk hz7
        go_wp2_with (at_builtin; refine wpList_append_any _ rfl (.tmp 62) (.tmp 65) 22 rfl (w.heap.size + 1) 44 i0 _ 1 24 Try.underlying22 hi0 hz0 hz1 hz2 rfl (by omega) (.slice (some ⟨go, 0, none⟩) (ys.length + 1) co) (ys.length + 1) _ rfl hO9.out 0 (some ⟨w7.heap.size + 1, 0, none⟩) 1 1 [.slice (some ⟨w7.heap.size, 0, none⟩) 1 1] (by simp [Act.eval]) hnew.out (slV_one (some ⟨w7.heap.size, 0, none⟩, 1, 1)) k63 kby hbase ?_; intro va wa howna hga hat1)
        have hoff := own_offrow hO9.out
        have hOa : Hid (wa.ownsRow (w.heap.size + 1) 44 1 va ((ys ++ [(zs.map (·.1), vl)]).length + 1) (((ys ++ [(zs.map (·.1), vl)]).map fun y => slV y.2) ++ [slV (some ⟨w7.heap.size, 0, none⟩, 1, 1)])) := by
          rw [Hid, List.length_append, List.length_singleton, List.map_append]
          exact howna
        have hORa := hid_mk (hOR9.out.off hga hoff)
        have hra : Hid (RP wa w.heap.size s stcc (may && mayR rwc)) := hr9.out.grown hga (fun e => by have := (World.ownsRow.lt hO9.out _ e.symm).1; omega)
        have hBa : Hid (Below w.heap.size w wa) := hB9.out.grown hga hB9.out.size (fun k e => by have := (World.ownsRow.lt hO9.out _ e).1; omega)
        have hTa := hid_mk (hT9.out.step hga (fun k e => .inl (hoff k e)))
        have hwa : w7.heap.size ≤ wa.heap.size := by have := hga.size; rw [World.size_alloc, World.size_alloc] at this; omega
        clear hga howna hat1 hO9 hOR9 hr9 hB9 hT9 hnew hoff
        replace hS := hid_mk hS
        go_roundw
        case rel => exact ⟨w7, ys ++ [(zs.map (·.1), vl)], [(rRel rwc, (A, n, c))], (some ⟨w7.heap.size, 0, none⟩, 1, 1), outr ++ [rowr], [rwc], stcc, may && mayR rwc, f, hOa, hTa, hYS7, hORa, hra, hBa, hgb, hwa, (by rw [Hid, List.map_append, hys.out]; simp [ruleP, hzs.out]), rfl, (by rw [Hid, mayAll_snoc, ← hmay.out]; simp), hRm, (fun h => by have := hokc.out h; simp; omega), by simp; omega⟩
        case measure => exact hmeas.out _ _ _ hra.out hokc.out
      · have hRm : Hid (RW = parseLoop sl f outr (rowr ++ [rwb]) stbb) := by rw [Hid, hRn.out, ha]; rfl
        rw [ha] at hI1
        have hb97 := hI1.symm
        clear hI1
        replace ha := hid_mk ha
        rintro e w4 ⟨rfl, hbN⟩
        replace hO := hid_mk (own_off hO.out (gb_of (row := none) hbN) (fun k e => by cases e))
        replace hOR := hid_mk (hOR.out.to hbN)
        replace hT := hid_mk (hT.out.quiet hbN)
        replace hB := hid_mk (after (w := w) hbN hB.out).1
        replace hr := hid_mk (RP.keep hr.out hbN)
        replace hw0s := Nat.le_trans hw0s hbN.size
        clear hbN
        go_wp2_with fail
        refine (take_any s ⟨#[97, 110, 100, 32]⟩ sta may w.heap.size _ hs (by decide) (by decide) hr.out).mono ?_
        rw [show mustS s.data.toList (⟨#[97, 110, 100, 32]⟩ : ByteArray).data.toList sta = stb from by rw [hsl]; exact eb]
        rintro e w5 ⟨rfl, gN, hrN⟩
        replace hO := hid_mk (own_off hO.out gN hr.out.offr)
        replace hOR := hid_mk (hOR.out.off gN hr.out.off)
        replace hT := hid_mk (hT.out.step gN (fun k e => .inl (hr.out.off k e)))
        replace hB := hid_mk (hB.out.grown gN hB.out.size (fun k e => by cases e; exact Nat.le_refl _))
        replace hr := hid_mk hrN
        replace hw0s := Nat.le_trans hw0s gN.size
        clear gN hrN
        go_wp2_with fail
        refine (prel_any s stb may w.heap.size _ hs hr.out).mono ?_
        rw [hsl, ebb.out]
        rintro e w6 ⟨A, n, c, rfl, hS, hn, gN, hrN⟩
        dsimp only at *
        replace hO := hid_mk (own_off hO.out gN hr.out.offr)
        replace hOR := hid_mk (hOR.out.off gN hr.out.off)
        replace hT := hid_mk (hT.out.step gN (fun k e => .inl (hr.out.off k e)))
        replace hB := hid_mk (hB.out.grown gN hB.out.size (fun k e => by cases e; exact Nat.le_refl _))
        replace hr := hid_mk hrN
        replace hw0s := Nat.le_trans hw0s gN.size
        clear gN hrN
        have hlt6 : Hid (∀ k, (slV vl).ownBlock = some k → k < w6.heap.size) := fun k hk => (World.ownsRow.lt hOR.out.1 k hk).2
        obtain ⟨w7, hw7⟩ : ∃ w7, w6.alloc (.cells #[.int .i64 (rMod rwb.mod), .bool rwb.not, .slice A n c] 42) = w7 := ⟨_, rfl⟩
        have hY := blk3 (Blk.new w6 42 #[.int .i64 (rMod rwb.mod), .bool rwb.not, .slice A n c])
        rw [hw7] at hY
        obtain ⟨u0, u1, u2, u3⟩ := hY
        have hbN : Below w6.heap.size w6 w7 := by rw [← hw7]; exact (Below.refl _ _).alloc (Nat.le_refl _) _
        have hS7 := hS.to hbN
        replace hO := hid_mk (own_off hO.out (gb_of (row := none) hbN) (fun k e => by cases e))
        replace hOR := hid_mk (hOR.out.to hbN)
        replace hT := hid_mk (hT.out.quiet hbN)
        replace hB := hid_mk (after (w := w) hbN hB.out).1
        replace hr := hid_mk (RP.keep hr.out hbN)
        replace hw0s := Nat.le_trans hw0s hbN.size
        clear hbN
        obtain ⟨Av, nv, cv⟩ := vl
        obtain rfl : nv = zs.length := by
          obtain ⟨Ar, cr, h1, _⟩ := own_slice hOR.out.1
          unfold slV at h1
          injection h1
        obtain ⟨m, hmy⟩ : ∃ m, ys.length = m := ⟨_, rfl⟩
        have hgo : go < w7.heap.size ∧ w.heap.size + 1 ≤ go := by have := World.ownsRow.lt hO.out go rfl; omega
        have hcell : w7.cell? ⟨go, m, none⟩ = some (.slice Av zs.length cv) := by
          rw [World.ownsRow.cellAt hO.out m (by omega), List.getElem?_append_right (by simp; omega)]
          simp [hmy, slV]
        have hfro : w7.frozen? ⟨go, m, none⟩ = false := World.ownsRow.frozenAt hO.out m
        have i1 : (0 : Int) ≤ (m : Int) := by omega
        have i2 : (m : Int) < ((m + 1 : Nat) : Int) := by omega
        have i3 : (m : Int) < (m : Int) + 1 := by omega
        have i4 : IntKind.i64.wrap (((m + 1 : Nat) : Int) - 1) = (m : Int) := by rw [show ((m + 1 : Nat) : Int) - 1 = (m : Int) from by omega]; exact IntWalk.i64_in _ (by omega)
        have i5 : IntKind.i64.wrap ((m : Int) + 1 - 1) = (m : Int) := by rw [show (m : Int) + 1 - 1 = (m : Int) from by omega]; exact IntWalk.i64_in _ (by omega)
        have i6 : IntKind.i64.wrap (m : Int) = (m : Int) := IntWalk.i64_in _ (by omega)
        rw [hmy]
        have q8 : Below w7.heap.size w7 (w7.alloc (.cells #[.int .i64 (rMod rwb.mod), .bool rwb.not, .slice A n c] 42)) := (Below.refl _ _).alloc (Nat.le_refl _) _
        have hOR8 : Hid (OwnR (w7.alloc (.cells #[.int .i64 (rMod rwb.mod), .bool rwb.not, .slice A n c] 42)).drew w0.heap.size (.slice Av zs.length cv) zs) := hOR.out.to q8.drew
        have hS8 : Hid (Spans (w7.alloc (.cells #[.int .i64 (rMod rwb.mod), .bool rwb.not, .slice A n c] 42)).drew 0 A n (rwb.spans.map rSpan)) := hS7.to q8.drew
        have hO8 : Hid ((w7.alloc (.cells #[.int .i64 (rMod rwb.mod), .bool rwb.not, .slice A n c] 42)).drew.ownsRow (w.heap.size + 1) 44 1 (.slice (some ⟨go, 0, none⟩) (ys.length + 1) co) (ys.length + 1) ((ys.map fun y => slV y.2) ++ [slV (Av, zs.length, cv)])) := hO.out.alloc _
        have hr8 : Hid (RP (w7.alloc (.cells #[.int .i64 (rMod rwb.mod), .bool rwb.not, .slice A n c] 42)).drew w.heap.size s stbb (may && mayR rwb)) := RP.keep hr.out q8.drew
        have hB8 : Hid (Below w.heap.size w (w7.alloc (.cells #[.int .i64 (rMod rwb.mod), .bool rwb.not, .slice A n c] 42)).drew) := ((after (w := w) q8 hB.out).1).drew
        have hT8 : Hid (TF w0 (w7.alloc (.cells #[.int .i64 (rMod rwb.mod), .bool rwb.not, .slice A n c] 42)).drew) := hT.out.alloc _
        have hnew : Hid (Reads (w7.alloc (.cells #[.int .i64 (rMod rwb.mod), .bool rwb.not, .slice A n c] 42)).drew 0 42 3 (some ⟨w7.heap.size, 0, none⟩) 1 (relC (rRel rwb, (A, n, c)))) := reads_new w7 #[.int .i64 (rMod rwb.mod), .bool rwb.not, .slice A n c] 42 1 3 0 rfl
        have hbase : w0.heap.size ≤ (w7.alloc (.cells #[.int .i64 (rMod rwb.mod), .bool rwb.not, .slice A n c] 42)).drew.heap.size := by rw [World.size_drew, World.size_alloc]; omega
        have k63 : zs.length + 1 ≤ maxLen := by unfold maxLen; omega
        have kby : (zs.length + 1) * 40 ≤ 140737488355328 := by omega
        have hy8 : (w7.alloc (.cells #[.int .i64 (rMod rwb.mod), .bool rwb.not, .slice A n c] 42)).drew.cell? ⟨w6.heap.size, 0, none⟩ = some (.int .i64 (rMod rwb.mod)) ∧ (w7.alloc (.cells #[.int .i64 (rMod rwb.mod), .bool rwb.not, .slice A n c] 42)).drew.cell? ⟨w6.heap.size, 1, none⟩ = some (.bool rwb.not) ∧ (w7.alloc (.cells #[.int .i64 (rMod rwb.mod), .bool rwb.not, .slice A n c] 42)).drew.cell? ⟨w6.heap.size, 2, none⟩ = some (.slice A n c) := ⟨(q8.cell (p := ⟨w6.heap.size, 0, none⟩) u0).trans u1, (q8.cell (p := ⟨w6.heap.size, 1, none⟩) u0).trans u2, (q8.cell (p := ⟨w6.heap.size, 2, none⟩) u0).trans u3⟩
        clear q8 hS7 hO hOR hr hB hT
        replace hS := hid_mk hS
        go_wp2_with fail
        obtain ⟨hgo1, hgo2⟩ := hgo
        go_region_law (first | (refine step_append_any _ (by rfl) (.tmp 53) (.tmp 55) 44 (by rfl) w0.heap.size 42 j0 _ 3 40 Try.underlying44 hj0 hjz hj1 hj2 rfl (by omega) (.slice Av zs.length cv) zs.length _ (by simp [Act.eval]) hOR8.out.1 0 (some ⟨w7.heap.size, 0, none⟩) 1 1 (relC (rRel rwb, (A, n, c))) (by simp [Act.eval]) hnew.out (relC_one (rRel rwb, (A, n, c))) k63 kby hbase ?_; intro va wa howna hga hat1; obtain ⟨A9, cp9, rfl, hk8, hk9⟩ := own_slice howna; have hOa := own_off hO8.out hga (fun k hk => (by (obtain ⟨cs, fr, h1⟩ := own_typed hOR8.out.1 k hk; exact ⟨cs, _, fr, h1, by decide⟩))); have hca : wa.cell? ⟨go, m, none⟩ = some (.slice Av zs.length cv) := (by (rw [World.ownsRow.cellAt hOa m (by omega), List.getElem?_append_right (by simp; omega)]; simp [hmy, slV])); have hfa : wa.frozen? ⟨go, m, none⟩ = false := World.ownsRow.frozenAt hOa m; have hbk := hga.block w6.heap.size (by (rw [World.size_drew, World.size_alloc]; omega)) (fun e => (by (have := hlt6.out _ e.symm; omega))); have v1 := (World.cell?_of_block (a := ⟨w6.heap.size, 0, none⟩) hbk).trans hy8.1; have v2 := (World.cell?_of_block (a := ⟨w6.heap.size, 1, none⟩) hbk).trans hy8.2.1; have v3 := (World.cell?_of_block (a := ⟨w6.heap.size, 2, none⟩) hbk).trans hy8.2.2))
        all_goals
          subst hmy
          have hgs := gb_set wa go ys.length (.slice A9 (zs.length + 1) cp9)
          have hOf : Hid ((wa.setCell ⟨go, ys.length, none⟩ (.slice A9 (zs.length + 1) cp9)).ownsRow (w.heap.size + 1) 44 1 (.slice (some ⟨go, 0, none⟩) (ys.length + 1) co) (ys.length + 1) ((ys.map fun y => slV y.2) ++ [slV (A9, zs.length + 1, cp9)])) := by
            have h1 := (World.ownsRow.stored hOa ys.length (.slice A9 (zs.length + 1) cp9)).1
            rw [List.set_append_right _ _ (by simp)] at h1
            simp only [List.length_map, Nat.sub_self, List.set_cons_zero] at h1
            exact h1
          have hOR1 : OwnR wa w0.heap.size (slV (A9, zs.length + 1, cp9)) (zs ++ [(rRel rwb, (A, n, c))]) := OwnR.app (z := (rRel rwb, (A, n, c))) hOR8.out hS8.out (by dsimp only; omega) hga howna
          have hoffgo : Off wa (some go) := fun k e => by
            cases e
            obtain ⟨cs, fr, h1⟩ := own_typed hOa go rfl
            exact ⟨cs, _, fr, h1, by decide, by decide⟩
          have hORf := hid_mk (hOR1.off hgs hoffgo)
          have hr1 : RP wa w.heap.size s stbb (may && mayR rwb) := hr8.out.grown hga (fun e => by have := (World.ownsRow.lt hOR8.out.1 _ e.symm).1; omega)
          have hrf := hid_mk (hr1.grown hgs (by simp; omega))
          have hB1 := hB8.out.grown hga hB8.out.size (fun k e => by have := (World.ownsRow.lt hOR8.out.1 _ e).1; omega)
          have hBf := hid_mk (hB1.grown hgs hB1.size (fun k e => by cases e; omega))
          have hT1 := hT8.out.step hga (fun k e => .inr (World.ownsRow.lt hOR8.out.1 k e).1)
          have hTf := hid_mk (hT1.step hgs (fun k e => .inl (hoffgo k e)))
          have hwf : w0.heap.size ≤ (wa.setCell ⟨go, ys.length, none⟩ (.slice A9 (zs.length + 1) cp9)).heap.size := by
            have h1 := hga.size
            have h2 := hgs.size
            rw [World.size_drew, World.size_alloc] at h1
            omega
          go_wp2_with fail
          go_roundw
          case rel => exact ⟨w0, ys, zs ++ [(rRel rwb, (A, n, c))], (A9, zs.length + 1, cp9), outr, rowr ++ [rwb], stbb, may && mayR rwb, f, hOf, hTf, hYS, hORf, hrf, hBf, hgw, hwf, hys, (by rw [Hid, List.map_append, hzs.out]; simp), (by rw [Hid, hmay.out, List.all_append, List.all_cons, List.all_nil, Bool.and_true, Bool.and_assoc]), hRm, (fun h => by have := hokb.out h; simp; omega), by simp; omega⟩
          case measure => exact hmeas.out _ _ _ hrf.out hokb.out
    · have hRm : Hid (RW = (outr ++ [rowr], st)) := by rw [Hid, hRl.out, parseLoop_end _ _ _ _ _ hgoon]
      obtain ⟨x0, c0, c1, c2, c3, f1, f2, f3⟩ := hr.out.cells_
      by_cases hb : st.bad = 0
      · have hat : ¬ (st.at_ : Int) < s.size := fun h => hgoon ⟨hb, by omega⟩
        rw [hb] at c2
        have hRr : Hid (R = if (mayAll (outr ++ [rowr]) && ruleOk (ruleP (outr ++ [rowr]))) = true then (ruleP (outr ++ [rowr]), 0, 0) else ([], 1, 0)) := by
          rw [Hid, hR.out, hRm.out]; exact if_pos hb
        have hvl : vl.2.1 = zs.length := by
          obtain ⟨Ar, cr, h1, _⟩ := own_slice hOR.out.1
          unfold slV at h1
          injection h1
        have hrw : Rels wr 0 vl.1 vl.2.1 (zs.map (·.1)) := by
          have h1 := hOR.out
          unfold slV at h1
          exact h1.rels hvl
        have hru : Rule wr 0 (some ⟨go, 0, none⟩) (ys.length + 1) (ruleP (outr ++ [rowr])) := by
          refine ⟨ys ++ [(zs.map (·.1), vl)], ?_, ?_, fun y hy => ?_⟩
          · rw [List.map_append, hys.out]
            simp [ruleP, hzs.out]
          · rw [List.map_append]
            exact reads_of_own hO.out
          · rcases List.mem_append.1 hy with hy | hy
            · exact ⟨hT.out.rels (hYS.out y hy).1, (hYS.out y hy).2⟩
            · rw [List.mem_singleton] at hy
              subst hy
              exact ⟨hrw, by dsimp only; omega⟩
        replace hru := hid_mk hru
        clear hrw hgoon hcnt
        have hma : Hid (mayAll (outr ++ [rowr]) = may) := by rw [Hid, mayAll_snoc, ← hmay.out]
        cases may
        · have hRz : Hid (R = ([], 1, 0)) := by rw [Hid, hRr.out, hma.out]; rfl
          go_wp2
          refine ends_ret hQ (v := .tuple #[.slice none 0 0, .int .i64 1, .int .i64 0]) (by simp [results, Try.results8, go_sem]) rfl ?_
          exact ⟨none, 0, 0, by rw [hRz.out], by rw [hRz.out]; exact rule_none _, by omega, hB.out⟩
        · go_wp2_with fail
          refine (refRight_any _ (some ⟨go, 0, none⟩) _ co _ 0 (by omega) hru.out).mono ?_
          cases hok : ruleOk (ruleP (outr ++ [rowr]))
          · have hRz : Hid (R = ([], 1, 0)) := by rw [Hid, hRr.out, hma.out, hok]; rfl
            rintro e wb ⟨rfl, hb9⟩
            have q9 := hid_mk (after (w := w) hb9 hB.out).1
            clear hb9
            go_wp2
            refine ends_ret hQ (v := .tuple #[.slice none 0 0, .int .i64 1, .int .i64 0]) (by simp [results, Try.results8, go_sem]) rfl ?_
            exact ⟨none, 0, 0, by rw [hRz.out], by rw [hRz.out]; exact rule_none _, by omega, q9.out⟩
          · have hRz : Hid (R = (ruleP (outr ++ [rowr]), 0, 0)) := by rw [Hid, hRr.out, hma.out, hok]; rfl
            rintro e wb ⟨rfl, hb9⟩
            have q9 := hid_mk (after (w := w) hb9 hB.out).1
            have hru9 := hid_mk (hru.out.to hb9)
            clear hb9
            go_wp2
            refine ends_ret hQ (v := .tuple #[.slice (some ⟨go, 0, none⟩) (ys.length + 1) co, .int .i64 0, .int .i64 0]) (by simp [results, Try.results8, go_sem]) rfl ?_
            exact ⟨some ⟨go, 0, none⟩, _, co, by rw [hRz.out], by rw [hRz.out]; exact hru9.out, by omega, q9.out⟩
      · have hRz : Hid (R = ([], st.bad, (st.at_ : Int))) := by rw [Hid, hR.out, hRm.out]; exact if_neg hb
        have hbb : (st.bad == 0) = false := by simpa using hb
        have hbn : (st.bad != 0) = true := by simpa using hb
        clear hgoon hcnt
        go_wp2
        go_quiet (fail)
        all_goals go_wp2
        all_goals
          refine ends_ret hQ (v := .tuple #[.slice none 0 0, .int .i64 st.bad, .int .i64 st.at_]) (by simp [results, Try.results8, go_sem]) rfl ?_
          exact ⟨none, 0, 0, by rw [hRz.out], by rw [hRz.out]; exact rule_none _, by omega, below_drewN hB.out _⟩
end Go.Proofs.Ytfafinnklniniaa
