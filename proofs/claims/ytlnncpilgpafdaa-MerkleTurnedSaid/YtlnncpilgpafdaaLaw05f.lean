/-
  WHAT IS PROVED HERE: the walk of the law MerkleTurned: it returns true and writes nothing that was there. No condition.
-/
import Derived.Test.YtlnncpilgpafdaaMrkB
namespace Go.Proofs.Ytlnncpilgpafdaa
open Go.RowKit

theorem coll_leaf {ls : List ByteArray} (h32 : ∀ s ∈ ls, s.size = 32) (hlen : ls.length ≤ 4096) {k : Nat} {l t : ByteArray} {ps : List ByteArray} (hl : ls[k]? = some l) (hne : t ≠ l) (hck : checkB (rootB ls) ls.length k t ps = true) : collB (madeTs ls) (shownTI ls.length k t ps) = true := by
  rcases check_sound h32 hlen hck with ⟨_, _, _, h, _⟩ | h
  · rw [Int.toNat_natCast, hl] at h
    injection h with h
    exact absurd h.symm hne
  · exact h
theorem coll_proof {ls : List ByteArray} (h32 : ∀ s ∈ ls, s.size = 32) (hlen : ls.length ≤ 4096) {k : Nat} {t : ByteArray} {ps : List ByteArray} (hne : ps ≠ proofW dB ls k) (hck : checkB (rootB ls) ls.length k t ps = true) : collB (madeTs ls) (shownTI ls.length k t ps) = true := by
  rcases check_sound h32 hlen hck with ⟨_, _, _, _, h⟩ | h
  · rw [Int.toNat_natCast] at h
    exact absurd h hne
  · exact h
theorem coll_num {ls : List ByteArray} (h32 : ∀ s ∈ ls, s.size = 32) (hlen : ls.length ≤ 4096) {n k : Int} {t : ByteArray} {ps : List ByteArray} (hne : n ≠ ls.length) (hck : checkB (rootB ls) n k t ps = true) : collB (madeTs ls) (shownTI n k t ps) = true := by
  rcases check_sound h32 hlen hck with ⟨h, _⟩ | h
  · exact absurd h hne
  · exact h
theorem root_ne {ls : List ByteArray} (h32 : ∀ s ∈ ls, s.size = 32) (hlen : ls.length ≤ 4096) {k : Nat} {l r : ByteArray} (hl : ls[k]? = some l) (hne : r ≠ rootB ls) : checkB r ls.length k l (proofW dB ls k) = false := by
  have h := check_shows h32 hlen hl
  unfold checkB at h ⊢
  split at h
  · rename_i ha
    rw [if_pos ha]
    have h1 := of_decide_eq_true h
    rw [h1]
    simpa using fun e => hne e.symm
  · cases h
theorem Reads.set_away {w : World} {B g size n : Nat} {e : TypeId} {A : Option Addr} {xs : List Value} (h : Reads w B e size A n xs) (ha : ∀ b o, A = some ⟨b, o, none⟩ → b ≠ g) (i : Nat) (u : Value) : Reads (w.setCell ⟨g, i, none⟩ u) (w.setCell ⟨g, i, none⟩ u).heap.size e size A n xs := by
  refine ⟨h.1, fun hn => ?_⟩
  obtain ⟨b, o, ea, hlt, _, hc⟩ := h.2 hn
  have hlt' : b < (w.setCell ⟨g, i, none⟩ u).heap.size := by simpa [World.setCell] using hlt
  refine ⟨b, o, ea, hlt', .inl hlt', fun j v hj => ?_⟩
  have he : (⟨g, i, none⟩ : Addr) ≠ ⟨b, o + j, none⟩ := by intro he; injection he with h1; exact ha b o ea h1.symm
  rw [World.cell?_setCell_other _ _ _ _ he]
  exact hc j v hj
theorem OwnM.put {w : World} {B n c : Nat} {e : TypeId} {A : Option Addr} {xs : List Value} {g : Nat} (h : OwnM w B e (.slice A n c) n xs) (hA : A = some ⟨g, 0, none⟩) {j : Nat} (hj : j < n) (u : Value) : OwnM (w.setCell ⟨g, j, none⟩ u) B e (.slice A n c) n (xs.set j u) ∧ w.frozen? ⟨g, j, none⟩ = false := by
  rcases h.2 with ⟨hv, h0⟩ | ⟨g', cap, cur, fz, hv, hb, hh, hf, h1, h2, h3, h4⟩
  · omega
  · injection hv with ha _ hc
    subst hA
    injection ha with ha
    injection ha with ha
    subst ha
    subst hc
    refine ⟨⟨by rw [List.length_set]; exact h.1, .inr ⟨g, c, cur.setIfInBounds j u, fz, rfl, hb, ?_, ?_, h1, h2, ?_, ?_⟩⟩, ?_⟩
    · simp [World.setCell, Array.getElem?_modify, hh]
    · simpa using hf
    · simpa using h3
    · rw [← h4, Array.toList_setIfInBounds, List.take_set]
    · simp [World.frozen?, hh]
      omega
theorem tmod_pos (i : Int) (N : Nat) (hN : 0 < N) : -(N : Int) < i.tmod N ∧ i.tmod N < N := by
  have h1 := Int.tmod_lt_of_pos i (show (0 : Int) < N by omega)
  have h2 := Int.lt_tmod_of_pos i (show (0 : Int) < N by omega)
  exact ⟨h2, h1⟩
theorem tmod_two (i : Int) (N : Nat) (hN : 0 < N) : ∃ k : Nat, k < N ∧ (i.tmod N + N).tmod N = (k : Int) := by
  obtain ⟨h1, h2⟩ := tmod_pos i N hN
  have h3 : 0 ≤ (i.tmod N + N).tmod N := Int.tmod_nonneg _ (by omega)
  have h4 := (tmod_pos (i.tmod N + N) N hN).2
  exact ⟨((i.tmod N + N).tmod N).toNat, by omega, by omega⟩
set_option maxRecDepth 100000 in
set_option maxHeartbeats 6400000 in
theorem LawTurned_any (A : Option Addr) (n0 cap : Nat) (ss : List ByteArray) (i what bit : Int) (w : World) (h : Strs w w.heap.size A n0 ss) (hsz : ∀ s ∈ ss, s.size ≤ 140737488351232) :
    Calls Try.prog 8 #[.slice A n0 cap, .int .i64 i, .int .i64 what, .int .i64 bit] w fun e w' => e = .returned (.bool true) ∧ Below w.heap.size w w' := by
  obtain ⟨j0, hj0, hjz, hj1, hj2⟩ := info_parts16 strJ
  have hr := hid_mk (leavesD_right ss)
  have h32 := hid_mk (leavesD_32 ss)
  have hl40 := leavesD_len ss
  obtain ⟨ls, hls⟩ : ∃ ls, leavesD ss = ls := ⟨_, rfl⟩
  have hb0 : Below w.heap.size w (w.alloc (.cells #[.int .i64 bit] 3)) := (Below.refl _ _).alloc (Nat.le_refl _) _
  have hbx0 : Hid (Blk (w.alloc (.cells #[.int .i64 bit] 3)) w.heap.size 3 #[.int .i64 bit]) := Blk.new w 3 #[.int .i64 bit]
  have hdig := digests_any A n0 cap ss (w.alloc (.cells #[.int .i64 bit] 3)) (h.to hb0) hsz
  rw [hls] at hr h32 hl40 hdig
  have hrt : Hid ((if rightS ls = 0 then Value.tuple #[.string (rootB ls), .int .i64 0] else .tuple #[.string ⟨#[]⟩, .int .i64 (rightS ls)]) = .tuple #[.string (rootB ls), .int .i64 0]) := by rw [Hid, if_pos hr.out]
  have hr32 : (rootB ls).size = 32 := dB_32 _
  obtain ⟨N, hN⟩ : ∃ N, ls.length = N := ⟨_, rfl⟩
  rw [hN] at hl40
  have H0 : Hid (∀ (k : Nat) (l t : ByteArray) (ps : List ByteArray), ls[k]? = some l → t ≠ l → checkB (rootB ls) N k t ps = true → collB (madeTs ls) (shownTI N k t ps) = true) := fun k l t ps a b c => hN ▸ coll_leaf h32.out (by omega) a b (hN.symm ▸ c)
  have H1 : Hid (∀ (k : Nat) (t : ByteArray) (ps : List ByteArray), ps ≠ proofW dB ls k → checkB (rootB ls) N k t ps = true → collB (madeTs ls) (shownTI N k t ps) = true) := fun k t ps a c => hN ▸ coll_proof h32.out (by omega) a (hN.symm ▸ c)
  have H2 : Hid (∀ (k : Nat) (l r : ByteArray), ls[k]? = some l → r ≠ rootB ls → checkB r N k l (proofW dB ls k) = false) := fun k l r a b => hN ▸ root_ne h32.out (by omega) a b
  have H3 : Hid (∀ (n k : Int) (t : ByteArray) (ps : List ByteArray), n ≠ N → checkB (rootB ls) n k t ps = true → collB (madeTs ls) (shownTI n k t ps) = true) := fun n k t ps a c => coll_num h32.out (by omega) (by rw [hN]; exact a) c
  obtain ⟨rt, hrte⟩ : ∃ r, rootB ls = r := ⟨_, rfl⟩
  rw [hrte] at hrt hr32 H0 H1 H2 H3
  have hrl : ((rt.size : Int) != 32) = false := by simp; omega
  replace hrte := hid_mk hrte
  replace hls := hid_mk hls
  clear h hsz
  have hmf : ∀ (fn : Fn) (first cap : Array Value) (w : World), (Instr.makeFunc fn first cap).run Try.prog w = .ok (.func fn first cap) w := fun _ _ _ _ => rfl
  rcases Nat.eq_zero_or_pos N with rfl | hNp
  · have hl0 : ls = [] := List.eq_nil_of_length_eq_zero hN
    subst hl0
    have hck : Hid (checkB rt 0 0 rt [] = false) := by
      unfold Hid checkB
      rw [if_neg (by unfold askB; omega)]
    replace hr32 := hid_mk hr32
    replace hN := hid_mk hN
    replace hb0 := hid_mk hb0
    refine calls_of_wpQ Try.func8 rfl ?_
    intro Q hQ
    simp only [Try.ntmps8, List.size_toArray, List.length_cons, List.length_nil, Nat.reduceAdd, Nat.reduceSub, Array.replicate_succ, Array.replicate_zero, List.push_toArray, List.append_toArray, List.nil_append, List.cons_append]
    go_wp2_with fail
    refine hdig.mono ?_
    rintro e u1 ⟨A1, m1, c1, rfl, hc1, hS1, hb1, _⟩
    obtain rfl : 0 = m1 := hS1.len
    have p1 := hid_mk (after (w := w) hb1 hb0.out).1
    clear hdig hb1
    go_wp2_with fail
    refine (Root_any A1 0 c1 [] _ hS1 hc1 (by omega)).mono ?_
    rw [hrte.out, hrt.out]
    rintro e u2 ⟨rfl, hb2⟩
    have p2 := hid_mk (after (w := w) hb2 p1.out).1
    clear hb2
    go_wp2_with fail
    refine (Check_any rt 0 0 rt none 0 0 [] _ (B := u2.heap.size) Reads.none_ (by omega) (by omega)).mono ?_
    rw [hck.out]
    rintro e w3 ⟨rfl, hb3⟩
    have q3 := hid_mk (after (w := w) hb3 p2.out).1
    clear hb3
    go_wp2
    refine ends_ret hQ (results_tmp rfl _ _ _) rfl ?_
    exact ⟨ret_bool rfl, q3.out⟩
  · obtain ⟨a1, a2⟩ := tmod_pos i N hNp
    obtain ⟨k, hkN, hk⟩ := tmod_two i N hNp
    obtain ⟨a3, a4⟩ := tmod_pos bit 256 (by omega)
    obtain ⟨b, hbN, hbt⟩ := tmod_two bit 256 (by omega)
    obtain ⟨a5, a6⟩ := tmod_pos what 5 (by omega)
    obtain ⟨s, hs5, hst⟩ := tmod_two what 5 (by omega)
    obtain ⟨di, hdi⟩ : ∃ d, i.tmod N = d := ⟨_, rfl⟩
    obtain ⟨db, hdb⟩ : ∃ d, bit.tmod (256 : Nat) = d := ⟨_, rfl⟩
    obtain ⟨dw, hdw⟩ : ∃ d, what.tmod (5 : Nat) = d := ⟨_, rfl⟩
    rw [hdi] at a1 a2 hk
    rw [hdb] at a3 a4 hbt
    rw [hdw] at a5 a6 hst
    rw [show ((256 : Nat) : Int) = 256 from rfl] at hdb hbt a3 a4
    rw [show ((5 : Nat) : Int) = 5 from rfl] at hdw hst a5 a6
    have wi1 : IntKind.i64.wrap di = di := IntWalk.i64_in _ (by omega)
    have wi2 : IntKind.i64.wrap (di + N) = di + N := IntWalk.i64_in _ (by omega)
    have wi3 : IntKind.i64.wrap (k : Int) = k := IntWalk.i64_in _ (by omega)
    have wb1 : IntKind.i64.wrap db = db := IntWalk.i64_in _ (by omega)
    have wb2 : IntKind.i64.wrap (db + 256) = db + 256 := IntWalk.i64_in _ (by omega)
    have wb3 : IntKind.i64.wrap (b : Int) = b := IntWalk.i64_in _ (by omega)
    have ww1 : IntKind.i64.wrap dw = dw := IntWalk.i64_in _ (by omega)
    have ww2 : IntKind.i64.wrap (dw + 5) = dw + 5 := IntWalk.i64_in _ (by omega)
    have ww3 : IntKind.i64.wrap (s : Int) = s := IntWalk.i64_in _ (by omega)
    obtain ⟨l, hl⟩ : ∃ l, ls[k]? = some l := ⟨_, List.getElem?_eq_getElem (by omega)⟩
    have hl32 : Hid (l.size = 32) := h32.out l (List.mem_of_getElem? hl)
    obtain ⟨pf, hpf⟩ : ∃ pf, proofW dB ls k = pf := ⟨_, rfl⟩
    have hpl := proofW_len dB ls.length ls k (Nat.le_refl _)
    have hp32 : Hid (∀ s ∈ pf, s.size = 32) := by rw [← hpf]; exact proofW_32 dB dB_32 ls.length ls k (Nat.le_refl _) (by omega) h32.out
    rw [hpf, hN] at hpl
    obtain ⟨np, hnp⟩ : ∃ np, pf.length = np := ⟨_, rfl⟩
    rw [hnp] at hpl
    have hN0 : ¬ ((N : Int) = 0) := by omega
    have hN1 : ¬ (N = 0) := by omega
    have hN0' : ((N : Int) == 0) = false := by simp; omega
    replace hl := hid_mk hl
    replace hpf := hid_mk hpf
    replace hnp := hid_mk hnp
    replace hN := hid_mk hN
    replace hb0 := hid_mk hb0
    have hrs := hid_mk hr32
    clear hr32
    have t0 : s = 0 ∨ s = 1 ∨ s = 2 ∨ s = 3 ∨ s = 4 := by omega
    rcases t0 with rfl | rfl | rfl | rfl | rfl
    · refine calls_of_wpQ Try.func8 rfl ?_
      intro Q hQ
      simp only [Try.ntmps8, List.size_toArray, List.length_cons, List.length_nil, Nat.reduceAdd, Nat.reduceSub, Array.replicate_succ, Array.replicate_zero, List.push_toArray, List.append_toArray, List.nil_append, List.cons_append]
      go_wp2_with fail
      refine hdig.mono ?_
      rintro e u1 ⟨A1, m1, c1, rfl, hc1, hS1, hb1, hfr1⟩
      obtain rfl : N = m1 := by rw [← hN.out]; exact hS1.len
      have p1 := hid_mk (after (w := w) hb1 hb0.out).1
      have hbx1 := hid_mk (hbx0.out.keep hb1)
      clear hdig hb1 hbx0
      go_wp2_with fail
      refine (Root_any A1 N c1 ls _ hS1 hc1 (by omega)).mono ?_
      rw [hrte.out, hrt.out]
      rintro e u2 ⟨rfl, hb2⟩
      have p2 := hid_mk (after (w := w) hb2 p1.out).1
      have hbx2 := hid_mk (hbx1.out.keep hb2)
      have hS2 := Strs.to (Reads.topS hS1) hb2
      have cb2 : u2.cell? ⟨w.heap.size, 0, none⟩ = some (.int .i64 bit) := hbx2.out.cell 0
      have fb2 : u2.frozen? ⟨w.heap.size, 0, none⟩ = false := hbx2.out.frozen 0
      have lb2 := hbx2.out.lt
      have hS3 : Hid (Strs (u2.setCell ⟨w.heap.size, 0, none⟩ (.int .i64 b)).drew (u2.setCell ⟨w.heap.size, 0, none⟩ (.int .i64 b)).drew.heap.size A1 N ls) := Reads.set_away (g := w.heap.size) hS2 (fun b o e => by have := hfr1 b o e; rw [World.size_alloc] at this; omega) 0 (.int .i64 b)
      have hbx3 : Hid (Blk (u2.setCell ⟨w.heap.size, 0, none⟩ (.int .i64 b)).drew w.heap.size 3 #[.int .i64 b]) := (hbx2.out.set_ 0 (.int .i64 b)).drew
      have p3 : Hid (Below w.heap.size w (u2.setCell ⟨w.heap.size, 0, none⟩ (.int .i64 b)).drew) := (p2.out.setCell (p := ⟨w.heap.size, 0, none⟩) (by simp) _).drew
      clear hb2 hS1 hbx1
      go_wp2_with fail
      go_still_tail 12, (by kernel_rfl)
      change wpList _ _ _ _ _ u2.drew
      go_wp2_with fail
      obtain ⟨u3, hu3⟩ : ∃ u, (u2.setCell ⟨w.heap.size, 0, none⟩ (.int .i64 b)).drew = u := ⟨_, rfl⟩
      rw [hu3] at hS3 hbx3 p3
      rw [hu3]
      clear cb2 fb2 lb2 hbx2 hS2 hu3
      refine (Prove_some A1 N c1 ls k _ hS3.out hc1 hr.out hkN).mono ?_
      rw [hpf.out]
      rintro e u4 ⟨A3, n3, c3, rfl, hc3, hPf, hb4⟩
      obtain rfl : np = n3 := by rw [← hnp.out]; exact hPf.len
      have hS4 : Hid (Strs u4 u4.heap.size A1 N ls) := Reads.topS (Strs.to hS3.out hb4)
      have hP4 : Hid (Strs u4 u4.heap.size A3 np pf) := Reads.topS hPf
      have hbx4 := hid_mk (hbx3.out.keep hb4)
      have p4 := hid_mk (after (w := w) hb4 p3.out).1
      have hfr4 : Hid (∀ b o, A3 = some ⟨b, o, none⟩ → b < u3.heap.size ∨ True) := fun _ _ _ => .inr trivial
      clear hb4 hPf hS3 hbx3
      obtain ⟨b0, o0, l', rfl, hbl, _, hsk, hcell⟩ := hS4.out.at_ hkN
      obtain rfl : l = l' := by have h1 := hl.out; rw [hsk] at h1; injection h1 with h1; exact h1.symm
      replace hsk := hid_mk hsk
      have k0 : (0 : Int) ≤ k := by omega
      have k1 : (k : Int) < N := by omega
      go_wp2_with fail
      go_quiet (fail)
      obtain ⟨u5, hu5⟩ : ∃ u, u4.drewN nq = u := ⟨_, rfl⟩
      rw [hu5]
      have hS5 : Hid (Strs u5 u5.heap.size (some ⟨b0, o0, none⟩) N ls) := by rw [← hu5]; exact hS4.out
      have hP5 : Hid (Strs u5 u5.heap.size A3 np pf) := by rw [← hu5]; exact hP4.out
      have hbx5 : Hid (Blk u5 w.heap.size 3 #[.int .i64 b]) := by rw [← hu5]; exact hbx4.out
      have p5 : Hid (Below w.heap.size w u5) := by rw [← hu5]; exact hid_mk (below_drewN p4.out _)
      have cb5 : u5.cell? ⟨w.heap.size, 0, none⟩ = some (.int .i64 b) := hbx5.out.cell 0
      have lb5 := hbx5.out.lt
      replace hu5 := hid_mk hu5
      clear hS4 hP4 hbx4 p4 hcell hbl hfr4
      go_wp2_with (go_at_call 22; refine (turn1_any l w.heap.size b _ (by rw [hl32.out]; omega) hbN hbx5.out).mono ?_; rintro e u6 ⟨t, rfl, hts, htn, hb6⟩)
      have hne := htn hl32.out
      have p6 := hid_mk (after (w := w) hb6 p5.out).1
      have hSc : Hid (Strs u6 u6.heap.size (some ⟨b0, o0, none⟩) N ls) := Reads.topS (Strs.to hS5.out hb6)
      have hP6 : Hid (Strs u6 u6.heap.size A3 np pf) := Reads.topS (Strs.to hP5.out hb6)
      obtain ⟨c, hck⟩ : ∃ c, checkB rt N k t pf = c := ⟨_, rfl⟩
      have hcc : Hid (c = true → collB (madeTs ls) (shownTI N k t pf) = true) := fun e => H0.out k l t pf hl.out hne (by rw [hck, e])
      replace hck := hid_mk hck
      replace hne := hid_mk hne
      replace hts := hid_mk hts
      clear hb6 htn
      refine (Check_any rt (N : Int) (k : Int) t A3 np c3 pf _ hP6.out (by omega) (by omega)).mono ?_
      rw [hck.out]
      rintro e w3 ⟨rfl, hb3⟩
      have q3 := hid_mk (after (w := w) hb3 p6.out).1
      have hS3 : Hid (Strs w3 w3.heap.size (some ⟨b0, o0, none⟩) N ls) := Reads.topS (Strs.to hSc.out hb3)
      have hps3 : Hid (Strs w3 w3.heap.size A3 np pf) := Reads.topS (Strs.to hP6.out hb3)
      clear hb3
      cases c
      · go_wp2
        refine ends_ret hQ (results_tmp rfl _ _ _) rfl ?_
        exact ⟨ret_bool rfl, q3.out⟩
      · have hcoll := hid_mk (hcc.out rfl)
        have hNl : ls.length ≤ 40 := by rw [hN.out]; exact hl40
        have hbA : Hid (Below w.heap.size w (w3.alloc (.cells #[.slice none 0 0] 25))) := q3.out.alloc q3.out.size _
        have hbB : Hid (Below w.heap.size w ((w3.alloc (.cells #[.slice none 0 0] 25)).alloc (.cells #[.slice none 0 0] 25))) := hbA.out.alloc hbA.out.size _
        have hsz3 := q3.out.size
        have hMa : Hid (MadeIs ((w3.alloc (.cells #[.slice none 0 0] 25)).alloc (.cells #[.slice none 0 0] 25)) w.heap.size w3.heap.size (.slice none 0 0) []) := (made_new w3 w q3.out.size).keep (by go_grown)
        have hMb : Hid (MadeIs ((w3.alloc (.cells #[.slice none 0 0] 25)).alloc (.cells #[.slice none 0 0] 25)) w.heap.size (w3.heap.size + 1) (.slice none 0 0) []) := by
          have h1 := made_new (w3.alloc (.cells #[.slice none 0 0] 25)) w hbA.out.size
          rw [World.size_alloc] at h1
          exact h1
        have hSB : Hid (Strs ((w3.alloc (.cells #[.slice none 0 0] 25)).alloc (.cells #[.slice none 0 0] 25)) w3.heap.size (some ⟨b0, o0, none⟩) N ls) := Strs.to hS3.out (by go_grown)
        have hPB : Hid (Strs ((w3.alloc (.cells #[.slice none 0 0] 25)).alloc (.cells #[.slice none 0 0] 25)) w3.heap.size A3 np pf) := Strs.to hps3.out (by go_grown)
        have hawA : 0 < N → Away (some ⟨b0, o0, none⟩) w3.heap.size (Value.slice none 0 0).ownBlock := fun e => away_old hS3.out e (Nat.le_refl _) (by simp [Value.ownBlock])
        have hawP : 0 < np → Away A3 (w3.heap.size + 1) (Value.slice none 0 0).ownBlock := fun e => away_old hps3.out e (by omega) (by simp [Value.ownBlock])
        replace hawA := hid_mk hawA
        replace hawP := hid_mk hawP
        go_wp2_with fail
        refine (MRoot_any hbB.out w3.heap.size (.slice none 0 0) [] hMa.out (some ⟨b0, o0, none⟩) N c1 ls hSB.out hawA.out (by omega) hc1 h32.out (by simp)).mono ?_
        rintro e w4 ⟨va, rfl, hMa4, hT4, hm4⟩
        have q4 : Hid (Below w.heap.size w w4) := TwoM.below hT4 hbB.out hbB.out.size hsz3 (fun k hk => by simp [Value.ownBlock] at hk)
        have hMb4 : Hid (MadeIs w4 w.heap.size (w3.heap.size + 1) (.slice none 0 0) []) := hMb.out.other hMa.out (by omega) (fun k hk => by simp [Value.ownBlock] at hk) hT4
        have hP4 : Hid (Strs w4 w4.heap.size A3 np pf) := by
          rcases Nat.eq_zero_or_pos np with e | e
          · exact ⟨hPB.out.1, fun h => absurd h (by omega)⟩
          · exact Reads.two hPB.out hT4 (away_old hps3.out e (Nat.le_refl _) (by simp [Value.ownBlock]))
        have hs4 : w3.heap.size + 1 < w4.heap.size := hMb4.out.lt
        have hawP4 : 0 < np → Away A3 (w3.heap.size + 1) (Value.slice none 0 0).ownBlock := hawP.out
        replace hawP4 := hid_mk hawP4
        rw [List.nil_append] at hMa4
        replace hMa4 := hid_mk hMa4
        clear hT4 hm4 hMa hMb hSB hPB
        go_wp2_with fail
        refine (MShown_any q4.out (w3.heap.size + 1) (.slice none 0 0) [] hMb4.out (N : Int) (k : Int) t A3 np c3 pf hP4.out hawP4.out (by omega) (by simp)).mono ?_
        rintro e w5 ⟨vb, hVe, hMb5, hT5, hm5⟩
        have q5 : Hid (Below w.heap.size w w5) := TwoM.below hT5 q4.out q4.out.size (by omega) (fun k hk => by simp [Value.ownBlock] at hk)
        have hMa5 : Hid (MadeIs w5 w.heap.size w3.heap.size va (madeTs ls)) := hMa4.out.other hMb4.out (by omega) (fun k _ => by simp [Value.ownBlock]) hT5
        rw [List.nil_append] at hMb5
        replace hMb5 := hid_mk hMb5
        obtain ⟨Aa, ca, rfl, hca, _⟩ := hMa5.out.2.2.slice
        obtain ⟨Ab, cb, rfl, hcb, _⟩ := hMb5.out.2.2.slice
        have hSa : Hid (Strs w5 w5.heap.size Aa (madeTs ls).length (madeTs ls)) := hMa5.out.2.2.reads
        have hSb : Hid (Strs w5 w5.heap.size Ab (shownTI (N : Int) (k : Int) t pf).length (shownTI (N : Int) (k : Int) t pf)) := hMb5.out.2.2.reads
        have ca0 : w5.cell? ⟨w3.heap.size, 0, none⟩ = some (.slice Aa (madeTs ls).length ca) := hMa5.out.2.1.cell 0
        have cb0 : w5.cell? ⟨w3.heap.size + 1, 0, none⟩ = some (.slice Ab (shownTI (N : Int) (k : Int) t pf).length cb) := hMb5.out.2.1.cell 0
        have hla := hMa5.out.lt
        have hlb := hMb5.out.lt
        have hna := madeTs_len (ls := ls)
        have hnb := shownTI_len (n := (N : Int)) (i := (k : Int)) (leaf := t) (ps := pf)
        have hza := madeTs_size h32.out
        have hzb := shownTI_size (n := (N : Int)) (i := (k : Int)) (leaf := t) (ps := pf)
        obtain ⟨TA, hTA⟩ : ∃ T, madeTs ls = T := ⟨_, rfl⟩
        obtain ⟨TB, hTB⟩ : ∃ T, shownTI (N : Int) (k : Int) t pf = T := ⟨_, rfl⟩
        rw [hTA] at hSa ca0 hna hza
        rw [hTB] at hSb cb0 hnb hzb
        have hcoll2 : Hid (collB TA TB = true) := by rw [Hid, ← hTA, ← hTB]; exact hcoll.out
        obtain ⟨na, hnae⟩ : ∃ n, TA.length = n := ⟨_, rfl⟩
        obtain ⟨nb, hnbe⟩ : ∃ n, TB.length = n := ⟨_, rfl⟩
        rw [hnae] at hSa ca0 hna
        rw [hnbe] at hSb cb0 hnb
        replace hTA := hid_mk hTA
        replace hTB := hid_mk hTB
        replace hnae := hid_mk hnae
        replace hnbe := hid_mk hnbe
        replace hza := hid_mk hza
        replace hzb := hid_mk hzb
        have hnab : na ≤ 8796093022208 := by omega
        have hnbb : nb ≤ 8796093022208 := by omega
        clear hMa5 hMb5 hT5 hm5 hMb4 hMa4 hP4
        try obtain ⟨V, hV⟩ : ∃ V, shownVI (N : Int) (k : Int) t pf = V := ⟨_, rfl⟩
        try rw [hV] at hVe
        try replace hV := hid_mk hV
        subst hVe
        go_wp2_with fail
        go_still_tail 8, (by kernel_rfl)
        change wpList _ _ _ _ _ w5.drew
        go_wp2_with fail
        refine (Collide_any Aa na ca TA Ab nb cb TB w5.drew hSa.out hSb.out hnab hnbb hza.out hzb.out).mono ?_
        rw [hcoll2.out]
        rintro e w6 ⟨rfl, hb6⟩
        have q6 := (after (w := w) hb6 q5.out.drew).1
        go_wp2
        refine ends_ret hQ (results_tmp rfl _ _ _) rfl ?_
        exact ⟨rfl, q6⟩
    · refine calls_of_wpQ Try.func8 rfl ?_
      intro Q hQ
      simp only [Try.ntmps8, List.size_toArray, List.length_cons, List.length_nil, Nat.reduceAdd, Nat.reduceSub, Array.replicate_succ, Array.replicate_zero, List.push_toArray, List.append_toArray, List.nil_append, List.cons_append]
      go_wp2_with fail
      refine hdig.mono ?_
      rintro e u1 ⟨A1, m1, c1, rfl, hc1, hS1, hb1, hfr1⟩
      obtain rfl : N = m1 := by rw [← hN.out]; exact hS1.len
      have p1 := hid_mk (after (w := w) hb1 hb0.out).1
      have hbx1 := hid_mk (hbx0.out.keep hb1)
      clear hdig hb1 hbx0
      go_wp2_with fail
      refine (Root_any A1 N c1 ls _ hS1 hc1 (by omega)).mono ?_
      rw [hrte.out, hrt.out]
      rintro e u2 ⟨rfl, hb2⟩
      have p2 := hid_mk (after (w := w) hb2 p1.out).1
      have hbx2 := hid_mk (hbx1.out.keep hb2)
      have hS2 := Strs.to (Reads.topS hS1) hb2
      have cb2 : u2.cell? ⟨w.heap.size, 0, none⟩ = some (.int .i64 bit) := hbx2.out.cell 0
      have fb2 : u2.frozen? ⟨w.heap.size, 0, none⟩ = false := hbx2.out.frozen 0
      have lb2 := hbx2.out.lt
      have hS3 : Hid (Strs (u2.setCell ⟨w.heap.size, 0, none⟩ (.int .i64 b)).drew (u2.setCell ⟨w.heap.size, 0, none⟩ (.int .i64 b)).drew.heap.size A1 N ls) := Reads.set_away (g := w.heap.size) hS2 (fun b o e => by have := hfr1 b o e; rw [World.size_alloc] at this; omega) 0 (.int .i64 b)
      have hbx3 : Hid (Blk (u2.setCell ⟨w.heap.size, 0, none⟩ (.int .i64 b)).drew w.heap.size 3 #[.int .i64 b]) := (hbx2.out.set_ 0 (.int .i64 b)).drew
      have p3 : Hid (Below w.heap.size w (u2.setCell ⟨w.heap.size, 0, none⟩ (.int .i64 b)).drew) := (p2.out.setCell (p := ⟨w.heap.size, 0, none⟩) (by simp) _).drew
      clear hb2 hS1 hbx1
      go_wp2_with fail
      go_still_tail 12, (by kernel_rfl)
      change wpList _ _ _ _ _ u2.drew
      go_wp2_with fail
      obtain ⟨u3, hu3⟩ : ∃ u, (u2.setCell ⟨w.heap.size, 0, none⟩ (.int .i64 b)).drew = u := ⟨_, rfl⟩
      rw [hu3] at hS3 hbx3 p3
      rw [hu3]
      clear cb2 fb2 lb2 hbx2 hS2 hu3
      refine (Prove_some A1 N c1 ls k _ hS3.out hc1 hr.out hkN).mono ?_
      rw [hpf.out]
      rintro e u4 ⟨A3, n3, c3, rfl, hc3, hPf, hb4⟩
      obtain rfl : np = n3 := by rw [← hnp.out]; exact hPf.len
      have hS4 : Hid (Strs u4 u4.heap.size A1 N ls) := Reads.topS (Strs.to hS3.out hb4)
      have hP4 : Hid (Strs u4 u4.heap.size A3 np pf) := Reads.topS hPf
      have hbx4 := hid_mk (hbx3.out.keep hb4)
      have p4 := hid_mk (after (w := w) hb4 p3.out).1
      have hfr4 : Hid (∀ b o, A3 = some ⟨b, o, none⟩ → b < u3.heap.size ∨ True) := fun _ _ _ => .inr trivial
      clear hb4 hPf hS3 hbx3
      obtain ⟨b0, o0, l', rfl, hbl, _, hsk, hcell⟩ := hS4.out.at_ hkN
      obtain rfl : l = l' := by have h1 := hl.out; rw [hsk] at h1; injection h1 with h1; exact h1.symm
      replace hsk := hid_mk hsk
      have k0 : (0 : Int) ≤ k := by omega
      have k1 : (k : Int) < N := by omega
      go_wp2_with fail
      go_quiet (fail)
      obtain ⟨u5, hu5⟩ : ∃ u, u4.drewN nq = u := ⟨_, rfl⟩
      rw [hu5]
      have hS5 : Hid (Strs u5 u5.heap.size (some ⟨b0, o0, none⟩) N ls) := by rw [← hu5]; exact hS4.out
      have hP5 : Hid (Strs u5 u5.heap.size A3 np pf) := by rw [← hu5]; exact hP4.out
      have hbx5 : Hid (Blk u5 w.heap.size 3 #[.int .i64 b]) := by rw [← hu5]; exact hbx4.out
      have p5 : Hid (Below w.heap.size w u5) := by rw [← hu5]; exact hid_mk (below_drewN p4.out _)
      have cb5 : u5.cell? ⟨w.heap.size, 0, none⟩ = some (.int .i64 b) := hbx5.out.cell 0
      have lb5 := hbx5.out.lt
      replace hu5 := hid_mk hu5
      clear hS4 hP4 hbx4 p4 hcell hbl hfr4
      rcases Nat.eq_zero_or_pos np with rfl | hnp0
      · go_wp2
        refine ends_ret hQ (results_tmp rfl _ _ _) rfl ?_
        exact ⟨ret_bool rfl, p5.out⟩
      · have y1 : ¬ (np = 0) := by omega
        have y2 : (b : Int).tmod np = ((b % np : Nat) : Int) := rfl
        have y3 : b % np < np := Nat.mod_lt _ hnp0
        obtain ⟨j, hj⟩ : ∃ j, b % np = j := ⟨_, rfl⟩
        rw [hj] at y2 y3
        have y4 : IntKind.i64.wrap (j : Int) = j := IntWalk.i64_in _ (by omega)
        have y5 : (0 : Int) ≤ j := by omega
        have y6 : (j : Int) < np := by omega
        have y7 : ((np : Int) == 0) = false := by simp; omega
        obtain ⟨s, hs⟩ : ∃ s, pf[j]? = some s := ⟨_, List.getElem?_eq_getElem (by rw [hnp.out]; exact y3)⟩
        have hss := hid_mk (hp32.out s (List.mem_of_getElem? hs))
        have hsv : (pf.map vstr)[j]? = some (vstr s) := by rw [List.getElem?_map, hs]; rfl
        have own0 : OwnM (u5.alloc (.cells #[] 9)) w.heap.size 9 (.slice (some ⟨u5.heap.size, 0, none⟩) 0 0) 0 (([] : List ByteArray).map vstr) := (OwnM.of (World.ownsRow_lit (base := w.heap.size) (e := 9) (size := 1) u5 #[] 0 p5.out.size (by unfold maxLen; omega) (by simp)))
        have hSa : Hid (Strs (u5.alloc (.cells #[] 9)) u5.heap.size (some ⟨b0, o0, none⟩) N ls) := Strs.to hS5.out (by go_grown)
        have hPa : Reads (u5.alloc (.cells #[] 9)) u5.heap.size 9 1 A3 np (pf.map vstr) := Strs.to hP5.out (by go_grown)
        have hbxa : Hid (Blk (u5.alloc (.cells #[] 9)) w.heap.size 3 #[.int .i64 b]) := hbx5.out.alloc _
        have pa : Below w.heap.size w (u5.alloc (.cells #[] 9)) := p5.out.alloc p5.out.size _
        have hb0l : b0 < u5.heap.size := by obtain ⟨b2, o2, ea, h2, _⟩ := hS5.out.2 hNp; injection ea with ea; injection ea with ea; omega
        have hws := p5.out.size
        replace hs := hid_mk hs
        replace hj := hid_mk hj
        clear cb5 lb5
        go_wp2_with (at_builtin; refine wpl_append rfl (.tmp 98) (.tmp 99) 22 rfl 9 j0 _ 16 Try.underlying22 hj0 hjz hj1 hj2 rfl pa (.slice (some ⟨u5.heap.size, 0, none⟩) 0 0) 0 _ rfl own0 u5.heap.size A3 np c3 _ (by simp [Act.eval]) hPa (vstr_one _) (by omega) (by omega) ?_; intro A5 c5 u6 hown5 hc5 p6 st hs5; rw [List.map_nil, List.nil_append, Nat.zero_add] at hown5; obtain ⟨g, rfl, hgl, hgc⟩ := hown5.row hnp0; have hbx6 := st.stay _ _ _ hbxa.out (by decide); have cb6 : u6.cell? ⟨w.heap.size, 0, none⟩ = some (.int .i64 b) := hbx6.cell 0; have lb6 := hbx6.lt; have cj6 := hgc j _ hsv)
        have hge : u5.heap.size ≤ g := by
          rcases st.at_ with e | ⟨x, e, hx⟩
          · simp [Value.ownBlock] at e; omega
          · simp [Value.ownBlock] at e; rw [World.size_alloc] at hx; omega
        have hS6 : Hid (Strs u6 u6.heap.size (some ⟨b0, o0, none⟩) N ls) := Reads.grow hSa.out st.grown (fun b o e => by injection e with e; injection e with e; simp [Value.ownBlock]; omega)
        refine (turn1_any s w.heap.size b _ (by rw [hss.out]; omega) hbN hbx6).mono ?_
        rintro e u7 ⟨t, rfl, hts, htn, hb7⟩
        have hne := htn hss.out
        have own7 := hown5.below hb7
        have hgc7 := (own7.cells (g := g) rfl j _ hsv)
        rw [add_plain, Nat.zero_add] at hgc7
        unfold vstr at hgc7
        have hput := own7.put rfl y3 (vstr t)
        have hfz := hput.2
        have own8 := hput.1
        have p7 := hid_mk (after (w := w) hb7 p6).1
        have hgl7 : g < u7.heap.size := Nat.lt_of_lt_of_le hgl hb7.size
        have hS7 : Hid (Strs u7 u7.heap.size (some ⟨b0, o0, none⟩) N ls) := Reads.topS (Strs.to hS6.out hb7)
        have hSc : Hid (Strs (u7.setCell ⟨g, j, none⟩ (.string t)) (u7.setCell ⟨g, j, none⟩ (.string t)).heap.size (some ⟨b0, o0, none⟩) N ls) := Reads.set_away (g := g) hS7.out (fun b o e => by injection e with e; injection e with e; omega) j (.string t)
        have p8 : Hid (Below w.heap.size w (u7.setCell ⟨g, j, none⟩ (.string t))) := p7.out.setCell (p := ⟨g, j, none⟩) (by simp; omega) _
        have hset : (pf.map vstr).set j (vstr t) = (pf.set j t).map vstr := by rw [List.map_set]
        rw [hset] at own8
        obtain ⟨PS, hPS⟩ : ∃ PS, pf.set j t = PS := ⟨_, rfl⟩
        rw [hPS] at own8
        have hP8 : Hid (Strs (u7.setCell ⟨g, j, none⟩ (.string t)) (u7.setCell ⟨g, j, none⟩ (.string t)).heap.size (some ⟨g, 0, none⟩) np PS) := own8.reads
        have hnPS : PS ≠ pf := by
          intro e
          have h1 := hs.out
          rw [← e, ← hPS, List.getElem?_set_self (by rw [hnp.out]; exact y3)] at h1
          injection h1 with h1
          exact hne h1
        obtain ⟨c, hck⟩ : ∃ c, checkB rt N k l PS = c := ⟨_, rfl⟩
        have hcc : Hid (c = true → collB (madeTs ls) (shownTI N k l PS) = true) := fun e => H1.out k l PS (by rw [hpf.out]; exact hnPS) (by rw [hck, e])
        replace hck := hid_mk hck
        replace hne := hid_mk hne
        replace hts := hid_mk hts
        replace hnPS := hid_mk hnPS
        replace hPS := hid_mk hPS
        clear htn hb7 hput own7 own8 hown5 hSa hPa hbxa pa own0 hset cj6 hgc st p6 hS6 hS7 hbx6 cb6 hsv
        go_wp2_with fail
        refine (Check_any rt (N : Int) (k : Int) l (some ⟨g, 0, none⟩) np c5 PS _ hP8.out (by omega) (by omega)).mono ?_
        rw [hck.out]
        rintro e w3 ⟨rfl, hb3⟩
        have q3 := hid_mk (after (w := w) hb3 p8.out).1
        have hS3 : Hid (Strs w3 w3.heap.size (some ⟨b0, o0, none⟩) N ls) := Reads.topS (Strs.to hSc.out hb3)
        have hps3 : Hid (Strs w3 w3.heap.size (some ⟨g, 0, none⟩) np PS) := Reads.topS (Strs.to hP8.out hb3)
        clear hb3
        cases c
        · go_wp2
          refine ends_ret hQ (results_tmp rfl _ _ _) rfl ?_
          exact ⟨ret_bool rfl, q3.out⟩
        · have hcoll := hid_mk (hcc.out rfl)
          have hNl : ls.length ≤ 40 := by rw [hN.out]; exact hl40
          have hbA : Hid (Below w.heap.size w (w3.alloc (.cells #[.slice none 0 0] 25))) := q3.out.alloc q3.out.size _
          have hbB : Hid (Below w.heap.size w ((w3.alloc (.cells #[.slice none 0 0] 25)).alloc (.cells #[.slice none 0 0] 25))) := hbA.out.alloc hbA.out.size _
          have hsz3 := q3.out.size
          have hMa : Hid (MadeIs ((w3.alloc (.cells #[.slice none 0 0] 25)).alloc (.cells #[.slice none 0 0] 25)) w.heap.size w3.heap.size (.slice none 0 0) []) := (made_new w3 w q3.out.size).keep (by go_grown)
          have hMb : Hid (MadeIs ((w3.alloc (.cells #[.slice none 0 0] 25)).alloc (.cells #[.slice none 0 0] 25)) w.heap.size (w3.heap.size + 1) (.slice none 0 0) []) := by
            have h1 := made_new (w3.alloc (.cells #[.slice none 0 0] 25)) w hbA.out.size
            rw [World.size_alloc] at h1
            exact h1
          have hSB : Hid (Strs ((w3.alloc (.cells #[.slice none 0 0] 25)).alloc (.cells #[.slice none 0 0] 25)) w3.heap.size (some ⟨b0, o0, none⟩) N ls) := Strs.to hS3.out (by go_grown)
          have hPB : Hid (Strs ((w3.alloc (.cells #[.slice none 0 0] 25)).alloc (.cells #[.slice none 0 0] 25)) w3.heap.size (some ⟨g, 0, none⟩) np PS) := Strs.to hps3.out (by go_grown)
          have hawA : 0 < N → Away (some ⟨b0, o0, none⟩) w3.heap.size (Value.slice none 0 0).ownBlock := fun e => away_old hS3.out e (Nat.le_refl _) (by simp [Value.ownBlock])
          have hawP : 0 < np → Away (some ⟨g, 0, none⟩) (w3.heap.size + 1) (Value.slice none 0 0).ownBlock := fun e => away_old hps3.out e (by omega) (by simp [Value.ownBlock])
          replace hawA := hid_mk hawA
          replace hawP := hid_mk hawP
          go_wp2_with fail
          refine (MRoot_any hbB.out w3.heap.size (.slice none 0 0) [] hMa.out (some ⟨b0, o0, none⟩) N c1 ls hSB.out hawA.out (by omega) hc1 h32.out (by simp)).mono ?_
          rintro e w4 ⟨va, rfl, hMa4, hT4, hm4⟩
          have q4 : Hid (Below w.heap.size w w4) := TwoM.below hT4 hbB.out hbB.out.size hsz3 (fun k hk => by simp [Value.ownBlock] at hk)
          have hMb4 : Hid (MadeIs w4 w.heap.size (w3.heap.size + 1) (.slice none 0 0) []) := hMb.out.other hMa.out (by omega) (fun k hk => by simp [Value.ownBlock] at hk) hT4
          have hP4 : Hid (Strs w4 w4.heap.size (some ⟨g, 0, none⟩) np PS) := by
            rcases Nat.eq_zero_or_pos np with e | e
            · exact ⟨hPB.out.1, fun h => absurd h (by omega)⟩
            · exact Reads.two hPB.out hT4 (away_old hps3.out e (Nat.le_refl _) (by simp [Value.ownBlock]))
          have hs4 : w3.heap.size + 1 < w4.heap.size := hMb4.out.lt
          have hawP4 : 0 < np → Away (some ⟨g, 0, none⟩) (w3.heap.size + 1) (Value.slice none 0 0).ownBlock := hawP.out
          replace hawP4 := hid_mk hawP4
          rw [List.nil_append] at hMa4
          replace hMa4 := hid_mk hMa4
          clear hT4 hm4 hMa hMb hSB hPB
          go_wp2_with fail
          refine (MShown_any q4.out (w3.heap.size + 1) (.slice none 0 0) [] hMb4.out (N : Int) (k : Int) l (some ⟨g, 0, none⟩) np c5 PS hP4.out hawP4.out (by omega) (by simp)).mono ?_
          rintro e w5 ⟨vb, hVe, hMb5, hT5, hm5⟩
          have q5 : Hid (Below w.heap.size w w5) := TwoM.below hT5 q4.out q4.out.size (by omega) (fun k hk => by simp [Value.ownBlock] at hk)
          have hMa5 : Hid (MadeIs w5 w.heap.size w3.heap.size va (madeTs ls)) := hMa4.out.other hMb4.out (by omega) (fun k _ => by simp [Value.ownBlock]) hT5
          rw [List.nil_append] at hMb5
          replace hMb5 := hid_mk hMb5
          obtain ⟨Aa, ca, rfl, hca, _⟩ := hMa5.out.2.2.slice
          obtain ⟨Ab, cb, rfl, hcb, _⟩ := hMb5.out.2.2.slice
          have hSa : Hid (Strs w5 w5.heap.size Aa (madeTs ls).length (madeTs ls)) := hMa5.out.2.2.reads
          have hSb : Hid (Strs w5 w5.heap.size Ab (shownTI (N : Int) (k : Int) l PS).length (shownTI (N : Int) (k : Int) l PS)) := hMb5.out.2.2.reads
          have ca0 : w5.cell? ⟨w3.heap.size, 0, none⟩ = some (.slice Aa (madeTs ls).length ca) := hMa5.out.2.1.cell 0
          have cb0 : w5.cell? ⟨w3.heap.size + 1, 0, none⟩ = some (.slice Ab (shownTI (N : Int) (k : Int) l PS).length cb) := hMb5.out.2.1.cell 0
          have hla := hMa5.out.lt
          have hlb := hMb5.out.lt
          have hna := madeTs_len (ls := ls)
          have hnb := shownTI_len (n := (N : Int)) (i := (k : Int)) (leaf := l) (ps := PS)
          have hza := madeTs_size h32.out
          have hzb := shownTI_size (n := (N : Int)) (i := (k : Int)) (leaf := l) (ps := PS)
          obtain ⟨TA, hTA⟩ : ∃ T, madeTs ls = T := ⟨_, rfl⟩
          obtain ⟨TB, hTB⟩ : ∃ T, shownTI (N : Int) (k : Int) l PS = T := ⟨_, rfl⟩
          rw [hTA] at hSa ca0 hna hza
          rw [hTB] at hSb cb0 hnb hzb
          have hcoll2 : Hid (collB TA TB = true) := by rw [Hid, ← hTA, ← hTB]; exact hcoll.out
          obtain ⟨na, hnae⟩ : ∃ n, TA.length = n := ⟨_, rfl⟩
          obtain ⟨nb, hnbe⟩ : ∃ n, TB.length = n := ⟨_, rfl⟩
          rw [hnae] at hSa ca0 hna
          rw [hnbe] at hSb cb0 hnb
          replace hTA := hid_mk hTA
          replace hTB := hid_mk hTB
          replace hnae := hid_mk hnae
          replace hnbe := hid_mk hnbe
          replace hza := hid_mk hza
          replace hzb := hid_mk hzb
          have hnab : na ≤ 8796093022208 := by omega
          have hnbb : nb ≤ 8796093022208 := by omega
          clear hMa5 hMb5 hT5 hm5 hMb4 hMa4 hP4
          try obtain ⟨V, hV⟩ : ∃ V, shownVI (N : Int) (k : Int) l PS = V := ⟨_, rfl⟩
          try rw [hV] at hVe
          try replace hV := hid_mk hV
          subst hVe
          go_wp2_with fail
          go_still_tail 8, (by kernel_rfl)
          change wpList _ _ _ _ _ w5.drew
          go_wp2_with fail
          refine (Collide_any Aa na ca TA Ab nb cb TB w5.drew hSa.out hSb.out hnab hnbb hza.out hzb.out).mono ?_
          rw [hcoll2.out]
          rintro e w6 ⟨rfl, hb6⟩
          have q6 := (after (w := w) hb6 q5.out.drew).1
          go_wp2
          refine ends_ret hQ (results_tmp rfl _ _ _) rfl ?_
          exact ⟨rfl, q6⟩
    · refine calls_of_wpQ Try.func8 rfl ?_
      intro Q hQ
      simp only [Try.ntmps8, List.size_toArray, List.length_cons, List.length_nil, Nat.reduceAdd, Nat.reduceSub, Array.replicate_succ, Array.replicate_zero, List.push_toArray, List.append_toArray, List.nil_append, List.cons_append]
      go_wp2_with fail
      refine hdig.mono ?_
      rintro e u1 ⟨A1, m1, c1, rfl, hc1, hS1, hb1, hfr1⟩
      obtain rfl : N = m1 := by rw [← hN.out]; exact hS1.len
      have p1 := hid_mk (after (w := w) hb1 hb0.out).1
      have hbx1 := hid_mk (hbx0.out.keep hb1)
      clear hdig hb1 hbx0
      go_wp2_with fail
      refine (Root_any A1 N c1 ls _ hS1 hc1 (by omega)).mono ?_
      rw [hrte.out, hrt.out]
      rintro e u2 ⟨rfl, hb2⟩
      have p2 := hid_mk (after (w := w) hb2 p1.out).1
      have hbx2 := hid_mk (hbx1.out.keep hb2)
      have hS2 := Strs.to (Reads.topS hS1) hb2
      have cb2 : u2.cell? ⟨w.heap.size, 0, none⟩ = some (.int .i64 bit) := hbx2.out.cell 0
      have fb2 : u2.frozen? ⟨w.heap.size, 0, none⟩ = false := hbx2.out.frozen 0
      have lb2 := hbx2.out.lt
      have hS3 : Hid (Strs (u2.setCell ⟨w.heap.size, 0, none⟩ (.int .i64 b)).drew (u2.setCell ⟨w.heap.size, 0, none⟩ (.int .i64 b)).drew.heap.size A1 N ls) := Reads.set_away (g := w.heap.size) hS2 (fun b o e => by have := hfr1 b o e; rw [World.size_alloc] at this; omega) 0 (.int .i64 b)
      have hbx3 : Hid (Blk (u2.setCell ⟨w.heap.size, 0, none⟩ (.int .i64 b)).drew w.heap.size 3 #[.int .i64 b]) := (hbx2.out.set_ 0 (.int .i64 b)).drew
      have p3 : Hid (Below w.heap.size w (u2.setCell ⟨w.heap.size, 0, none⟩ (.int .i64 b)).drew) := (p2.out.setCell (p := ⟨w.heap.size, 0, none⟩) (by simp) _).drew
      clear hb2 hS1 hbx1
      go_wp2_with fail
      go_still_tail 12, (by kernel_rfl)
      change wpList _ _ _ _ _ u2.drew
      go_wp2_with fail
      obtain ⟨u3, hu3⟩ : ∃ u, (u2.setCell ⟨w.heap.size, 0, none⟩ (.int .i64 b)).drew = u := ⟨_, rfl⟩
      rw [hu3] at hS3 hbx3 p3
      rw [hu3]
      clear cb2 fb2 lb2 hbx2 hS2 hu3
      refine (Prove_some A1 N c1 ls k _ hS3.out hc1 hr.out hkN).mono ?_
      rw [hpf.out]
      rintro e u4 ⟨A3, n3, c3, rfl, hc3, hPf, hb4⟩
      obtain rfl : np = n3 := by rw [← hnp.out]; exact hPf.len
      have hS4 : Hid (Strs u4 u4.heap.size A1 N ls) := Reads.topS (Strs.to hS3.out hb4)
      have hP4 : Hid (Strs u4 u4.heap.size A3 np pf) := Reads.topS hPf
      have hbx4 := hid_mk (hbx3.out.keep hb4)
      have p4 := hid_mk (after (w := w) hb4 p3.out).1
      have hfr4 : Hid (∀ b o, A3 = some ⟨b, o, none⟩ → b < u3.heap.size ∨ True) := fun _ _ _ => .inr trivial
      clear hb4 hPf hS3 hbx3
      obtain ⟨b0, o0, l', rfl, hbl, _, hsk, hcell⟩ := hS4.out.at_ hkN
      obtain rfl : l = l' := by have h1 := hl.out; rw [hsk] at h1; injection h1 with h1; exact h1.symm
      replace hsk := hid_mk hsk
      have k0 : (0 : Int) ≤ k := by omega
      have k1 : (k : Int) < N := by omega
      go_wp2_with fail
      go_quiet (fail)
      obtain ⟨u5, hu5⟩ : ∃ u, u4.drewN nq = u := ⟨_, rfl⟩
      rw [hu5]
      have hS5 : Hid (Strs u5 u5.heap.size (some ⟨b0, o0, none⟩) N ls) := by rw [← hu5]; exact hS4.out
      have hP5 : Hid (Strs u5 u5.heap.size A3 np pf) := by rw [← hu5]; exact hP4.out
      have hbx5 : Hid (Blk u5 w.heap.size 3 #[.int .i64 b]) := by rw [← hu5]; exact hbx4.out
      have p5 : Hid (Below w.heap.size w u5) := by rw [← hu5]; exact hid_mk (below_drewN p4.out _)
      have cb5 : u5.cell? ⟨w.heap.size, 0, none⟩ = some (.int .i64 b) := hbx5.out.cell 0
      have lb5 := hbx5.out.lt
      replace hu5 := hid_mk hu5
      clear hS4 hP4 hbx4 p4 hcell hbl hfr4
      go_wp2_with (go_at_call 22; refine (turn1_any rt w.heap.size b _ (by rw [hrs.out]; omega) hbN hbx5.out).mono ?_; rintro e u6 ⟨t, rfl, hts, htn, hb6⟩)
      have hne := htn hrs.out
      have p6 := hid_mk (after (w := w) hb6 p5.out).1
      have hP6 : Hid (Strs u6 u6.heap.size A3 np pf) := Reads.topS (Strs.to hP5.out hb6)
      have hck : Hid (checkB t N k l pf = false) := by have h1 := H2.out k l t hl.out hne; rw [hpf.out] at h1; exact h1
      replace hne := hid_mk hne
      replace hts := hid_mk hts
      clear hb6 htn
      refine (Check_any t (N : Int) (k : Int) l A3 np c3 pf _ hP6.out (by omega) (by omega)).mono ?_
      rw [hck.out]
      rintro e w3 ⟨rfl, hb3⟩
      have q3 := hid_mk (after (w := w) hb3 p6.out).1
      go_wp2
      refine ends_ret hQ (results_tmp rfl _ _ _) rfl ?_
      exact ⟨ret_bool rfl, q3.out⟩
    · refine calls_of_wpQ Try.func8 rfl ?_
      intro Q hQ
      simp only [Try.ntmps8, List.size_toArray, List.length_cons, List.length_nil, Nat.reduceAdd, Nat.reduceSub, Array.replicate_succ, Array.replicate_zero, List.push_toArray, List.append_toArray, List.nil_append, List.cons_append]
      go_wp2_with fail
      refine hdig.mono ?_
      rintro e u1 ⟨A1, m1, c1, rfl, hc1, hS1, hb1, hfr1⟩
      obtain rfl : N = m1 := by rw [← hN.out]; exact hS1.len
      have p1 := hid_mk (after (w := w) hb1 hb0.out).1
      have hbx1 := hid_mk (hbx0.out.keep hb1)
      clear hdig hb1 hbx0
      go_wp2_with fail
      refine (Root_any A1 N c1 ls _ hS1 hc1 (by omega)).mono ?_
      rw [hrte.out, hrt.out]
      rintro e u2 ⟨rfl, hb2⟩
      have p2 := hid_mk (after (w := w) hb2 p1.out).1
      have hbx2 := hid_mk (hbx1.out.keep hb2)
      have hS2 := Strs.to (Reads.topS hS1) hb2
      have cb2 : u2.cell? ⟨w.heap.size, 0, none⟩ = some (.int .i64 bit) := hbx2.out.cell 0
      have fb2 : u2.frozen? ⟨w.heap.size, 0, none⟩ = false := hbx2.out.frozen 0
      have lb2 := hbx2.out.lt
      have hS3 : Hid (Strs (u2.setCell ⟨w.heap.size, 0, none⟩ (.int .i64 b)).drew (u2.setCell ⟨w.heap.size, 0, none⟩ (.int .i64 b)).drew.heap.size A1 N ls) := Reads.set_away (g := w.heap.size) hS2 (fun b o e => by have := hfr1 b o e; rw [World.size_alloc] at this; omega) 0 (.int .i64 b)
      have hbx3 : Hid (Blk (u2.setCell ⟨w.heap.size, 0, none⟩ (.int .i64 b)).drew w.heap.size 3 #[.int .i64 b]) := (hbx2.out.set_ 0 (.int .i64 b)).drew
      have p3 : Hid (Below w.heap.size w (u2.setCell ⟨w.heap.size, 0, none⟩ (.int .i64 b)).drew) := (p2.out.setCell (p := ⟨w.heap.size, 0, none⟩) (by simp) _).drew
      clear hb2 hS1 hbx1
      go_wp2_with fail
      go_still_tail 12, (by kernel_rfl)
      change wpList _ _ _ _ _ u2.drew
      go_wp2_with fail
      obtain ⟨u3, hu3⟩ : ∃ u, (u2.setCell ⟨w.heap.size, 0, none⟩ (.int .i64 b)).drew = u := ⟨_, rfl⟩
      rw [hu3] at hS3 hbx3 p3
      rw [hu3]
      clear cb2 fb2 lb2 hbx2 hS2 hu3
      refine (Prove_some A1 N c1 ls k _ hS3.out hc1 hr.out hkN).mono ?_
      rw [hpf.out]
      rintro e u4 ⟨A3, n3, c3, rfl, hc3, hPf, hb4⟩
      obtain rfl : np = n3 := by rw [← hnp.out]; exact hPf.len
      have hS4 : Hid (Strs u4 u4.heap.size A1 N ls) := Reads.topS (Strs.to hS3.out hb4)
      have hP4 : Hid (Strs u4 u4.heap.size A3 np pf) := Reads.topS hPf
      have hbx4 := hid_mk (hbx3.out.keep hb4)
      have p4 := hid_mk (after (w := w) hb4 p3.out).1
      have hfr4 : Hid (∀ b o, A3 = some ⟨b, o, none⟩ → b < u3.heap.size ∨ True) := fun _ _ _ => .inr trivial
      clear hb4 hPf hS3 hbx3
      obtain ⟨b0, o0, l', rfl, hbl, _, hsk, hcell⟩ := hS4.out.at_ hkN
      obtain rfl : l = l' := by have h1 := hl.out; rw [hsk] at h1; injection h1 with h1; exact h1.symm
      replace hsk := hid_mk hsk
      have k0 : (0 : Int) ≤ k := by omega
      have k1 : (k : Int) < N := by omega
      go_wp2_with fail
      go_quiet (fail)
      obtain ⟨u5, hu5⟩ : ∃ u, u4.drewN nq = u := ⟨_, rfl⟩
      rw [hu5]
      have hS5 : Hid (Strs u5 u5.heap.size (some ⟨b0, o0, none⟩) N ls) := by rw [← hu5]; exact hS4.out
      have hP5 : Hid (Strs u5 u5.heap.size A3 np pf) := by rw [← hu5]; exact hP4.out
      have hbx5 : Hid (Blk u5 w.heap.size 3 #[.int .i64 b]) := by rw [← hu5]; exact hbx4.out
      have p5 : Hid (Below w.heap.size w u5) := by rw [← hu5]; exact hid_mk (below_drewN p4.out _)
      have cb5 : u5.cell? ⟨w.heap.size, 0, none⟩ = some (.int .i64 b) := hbx5.out.cell 0
      have lb5 := hbx5.out.lt
      replace hu5 := hid_mk hu5
      clear hS4 hP4 hbx4 p4 hcell hbl hfr4
      have v1 : IntKind.i64.wrap ((N : Int) + 1) = (N : Int) + 1 := IntWalk.i64_in _ (by omega)
      have v2 : IntKind.i64.wrap ((N : Int) + 1 + b) = (N : Int) + 1 + b := IntWalk.i64_in _ (by omega)
      have hSc := hS5
      obtain ⟨M, hM⟩ : ∃ M, (N : Int) + 1 + b = M := ⟨_, rfl⟩
      rw [hM] at v2
      have v3 : IntKind.i64.wrap M = M := by rw [← hM]; exact IntWalk.i64_in _ (by omega)
      obtain ⟨c, hck⟩ : ∃ c, checkB rt M k l pf = c := ⟨_, rfl⟩
      have hcc : Hid (c = true → collB (madeTs ls) (shownTI M k l pf) = true) := fun e => H3.out M k l pf (by omega) (by rw [hck, e])
      replace hck := hid_mk hck
      go_wp2_with fail
      refine (Check_any rt M (k : Int) l A3 np c3 pf _ hP5.out (by omega) (by omega)).mono ?_
      rw [hck.out]
      rintro e w3 ⟨rfl, hb3⟩
      have q3 := hid_mk (after (w := w) hb3 p5.out).1
      have hS3 : Hid (Strs w3 w3.heap.size (some ⟨b0, o0, none⟩) N ls) := Reads.topS (Strs.to hSc.out hb3)
      have hps3 : Hid (Strs w3 w3.heap.size A3 np pf) := Reads.topS (Strs.to hP5.out hb3)
      clear hb3
      cases c
      · go_wp2
        refine ends_ret hQ (results_tmp rfl _ _ _) rfl ?_
        exact ⟨ret_bool rfl, q3.out⟩
      · have hcoll := hid_mk (hcc.out rfl)
        have hNl : ls.length ≤ 40 := by rw [hN.out]; exact hl40
        have hbA : Hid (Below w.heap.size w (w3.alloc (.cells #[.slice none 0 0] 25))) := q3.out.alloc q3.out.size _
        have hbB : Hid (Below w.heap.size w ((w3.alloc (.cells #[.slice none 0 0] 25)).alloc (.cells #[.slice none 0 0] 25))) := hbA.out.alloc hbA.out.size _
        have hsz3 := q3.out.size
        have hMa : Hid (MadeIs ((w3.alloc (.cells #[.slice none 0 0] 25)).alloc (.cells #[.slice none 0 0] 25)) w.heap.size w3.heap.size (.slice none 0 0) []) := (made_new w3 w q3.out.size).keep (by go_grown)
        have hMb : Hid (MadeIs ((w3.alloc (.cells #[.slice none 0 0] 25)).alloc (.cells #[.slice none 0 0] 25)) w.heap.size (w3.heap.size + 1) (.slice none 0 0) []) := by
          have h1 := made_new (w3.alloc (.cells #[.slice none 0 0] 25)) w hbA.out.size
          rw [World.size_alloc] at h1
          exact h1
        have hSB : Hid (Strs ((w3.alloc (.cells #[.slice none 0 0] 25)).alloc (.cells #[.slice none 0 0] 25)) w3.heap.size (some ⟨b0, o0, none⟩) N ls) := Strs.to hS3.out (by go_grown)
        have hPB : Hid (Strs ((w3.alloc (.cells #[.slice none 0 0] 25)).alloc (.cells #[.slice none 0 0] 25)) w3.heap.size A3 np pf) := Strs.to hps3.out (by go_grown)
        have hawA : 0 < N → Away (some ⟨b0, o0, none⟩) w3.heap.size (Value.slice none 0 0).ownBlock := fun e => away_old hS3.out e (Nat.le_refl _) (by simp [Value.ownBlock])
        have hawP : 0 < np → Away A3 (w3.heap.size + 1) (Value.slice none 0 0).ownBlock := fun e => away_old hps3.out e (by omega) (by simp [Value.ownBlock])
        replace hawA := hid_mk hawA
        replace hawP := hid_mk hawP
        go_wp2_with fail
        refine (MRoot_any hbB.out w3.heap.size (.slice none 0 0) [] hMa.out (some ⟨b0, o0, none⟩) N c1 ls hSB.out hawA.out (by omega) hc1 h32.out (by simp)).mono ?_
        rintro e w4 ⟨va, rfl, hMa4, hT4, hm4⟩
        have q4 : Hid (Below w.heap.size w w4) := TwoM.below hT4 hbB.out hbB.out.size hsz3 (fun k hk => by simp [Value.ownBlock] at hk)
        have hMb4 : Hid (MadeIs w4 w.heap.size (w3.heap.size + 1) (.slice none 0 0) []) := hMb.out.other hMa.out (by omega) (fun k hk => by simp [Value.ownBlock] at hk) hT4
        have hP4 : Hid (Strs w4 w4.heap.size A3 np pf) := by
          rcases Nat.eq_zero_or_pos np with e | e
          · exact ⟨hPB.out.1, fun h => absurd h (by omega)⟩
          · exact Reads.two hPB.out hT4 (away_old hps3.out e (Nat.le_refl _) (by simp [Value.ownBlock]))
        have hs4 : w3.heap.size + 1 < w4.heap.size := hMb4.out.lt
        have hawP4 : 0 < np → Away A3 (w3.heap.size + 1) (Value.slice none 0 0).ownBlock := hawP.out
        replace hawP4 := hid_mk hawP4
        rw [List.nil_append] at hMa4
        replace hMa4 := hid_mk hMa4
        clear hT4 hm4 hMa hMb hSB hPB
        go_wp2_with fail
        refine (MShown_any q4.out (w3.heap.size + 1) (.slice none 0 0) [] hMb4.out M (k : Int) l A3 np c3 pf hP4.out hawP4.out (by omega) (by simp)).mono ?_
        rintro e w5 ⟨vb, hVe, hMb5, hT5, hm5⟩
        have q5 : Hid (Below w.heap.size w w5) := TwoM.below hT5 q4.out q4.out.size (by omega) (fun k hk => by simp [Value.ownBlock] at hk)
        have hMa5 : Hid (MadeIs w5 w.heap.size w3.heap.size va (madeTs ls)) := hMa4.out.other hMb4.out (by omega) (fun k _ => by simp [Value.ownBlock]) hT5
        rw [List.nil_append] at hMb5
        replace hMb5 := hid_mk hMb5
        obtain ⟨Aa, ca, rfl, hca, _⟩ := hMa5.out.2.2.slice
        obtain ⟨Ab, cb, rfl, hcb, _⟩ := hMb5.out.2.2.slice
        have hSa : Hid (Strs w5 w5.heap.size Aa (madeTs ls).length (madeTs ls)) := hMa5.out.2.2.reads
        have hSb : Hid (Strs w5 w5.heap.size Ab (shownTI M (k : Int) l pf).length (shownTI M (k : Int) l pf)) := hMb5.out.2.2.reads
        have ca0 : w5.cell? ⟨w3.heap.size, 0, none⟩ = some (.slice Aa (madeTs ls).length ca) := hMa5.out.2.1.cell 0
        have cb0 : w5.cell? ⟨w3.heap.size + 1, 0, none⟩ = some (.slice Ab (shownTI M (k : Int) l pf).length cb) := hMb5.out.2.1.cell 0
        have hla := hMa5.out.lt
        have hlb := hMb5.out.lt
        have hna := madeTs_len (ls := ls)
        have hnb := shownTI_len (n := M) (i := (k : Int)) (leaf := l) (ps := pf)
        have hza := madeTs_size h32.out
        have hzb := shownTI_size (n := M) (i := (k : Int)) (leaf := l) (ps := pf)
        obtain ⟨TA, hTA⟩ : ∃ T, madeTs ls = T := ⟨_, rfl⟩
        obtain ⟨TB, hTB⟩ : ∃ T, shownTI M (k : Int) l pf = T := ⟨_, rfl⟩
        rw [hTA] at hSa ca0 hna hza
        rw [hTB] at hSb cb0 hnb hzb
        have hcoll2 : Hid (collB TA TB = true) := by rw [Hid, ← hTA, ← hTB]; exact hcoll.out
        obtain ⟨na, hnae⟩ : ∃ n, TA.length = n := ⟨_, rfl⟩
        obtain ⟨nb, hnbe⟩ : ∃ n, TB.length = n := ⟨_, rfl⟩
        rw [hnae] at hSa ca0 hna
        rw [hnbe] at hSb cb0 hnb
        replace hTA := hid_mk hTA
        replace hTB := hid_mk hTB
        replace hnae := hid_mk hnae
        replace hnbe := hid_mk hnbe
        replace hza := hid_mk hza
        replace hzb := hid_mk hzb
        have hnab : na ≤ 8796093022208 := by omega
        have hnbb : nb ≤ 8796093022208 := by omega
        clear hMa5 hMb5 hT5 hm5 hMb4 hMa4 hP4
        try obtain ⟨V, hV⟩ : ∃ V, shownVI M (k : Int) l pf = V := ⟨_, rfl⟩
        try rw [hV] at hVe
        try replace hV := hid_mk hV
        subst hVe
        go_wp2_with fail
        go_still_tail 8, (by kernel_rfl)
        change wpList _ _ _ _ _ w5.drew
        go_wp2_with fail
        refine (Collide_any Aa na ca TA Ab nb cb TB w5.drew hSa.out hSb.out hnab hnbb hza.out hzb.out).mono ?_
        rw [hcoll2.out]
        rintro e w6 ⟨rfl, hb6⟩
        have q6 := (after (w := w) hb6 q5.out.drew).1
        go_wp2
        refine ends_ret hQ (results_tmp rfl _ _ _) rfl ?_
        exact ⟨rfl, q6⟩
    · refine calls_of_wpQ Try.func8 rfl ?_
      intro Q hQ
      simp only [Try.ntmps8, List.size_toArray, List.length_cons, List.length_nil, Nat.reduceAdd, Nat.reduceSub, Array.replicate_succ, Array.replicate_zero, List.push_toArray, List.append_toArray, List.nil_append, List.cons_append]
      go_wp2_with fail
      refine hdig.mono ?_
      rintro e u1 ⟨A1, m1, c1, rfl, hc1, hS1, hb1, hfr1⟩
      obtain rfl : N = m1 := by rw [← hN.out]; exact hS1.len
      have p1 := hid_mk (after (w := w) hb1 hb0.out).1
      have hbx1 := hid_mk (hbx0.out.keep hb1)
      clear hdig hb1 hbx0
      go_wp2_with fail
      refine (Root_any A1 N c1 ls _ hS1 hc1 (by omega)).mono ?_
      rw [hrte.out, hrt.out]
      rintro e u2 ⟨rfl, hb2⟩
      have p2 := hid_mk (after (w := w) hb2 p1.out).1
      have hbx2 := hid_mk (hbx1.out.keep hb2)
      have hS2 := Strs.to (Reads.topS hS1) hb2
      have cb2 : u2.cell? ⟨w.heap.size, 0, none⟩ = some (.int .i64 bit) := hbx2.out.cell 0
      have fb2 : u2.frozen? ⟨w.heap.size, 0, none⟩ = false := hbx2.out.frozen 0
      have lb2 := hbx2.out.lt
      have hS3 : Hid (Strs (u2.setCell ⟨w.heap.size, 0, none⟩ (.int .i64 b)).drew (u2.setCell ⟨w.heap.size, 0, none⟩ (.int .i64 b)).drew.heap.size A1 N ls) := Reads.set_away (g := w.heap.size) hS2 (fun b o e => by have := hfr1 b o e; rw [World.size_alloc] at this; omega) 0 (.int .i64 b)
      have hbx3 : Hid (Blk (u2.setCell ⟨w.heap.size, 0, none⟩ (.int .i64 b)).drew w.heap.size 3 #[.int .i64 b]) := (hbx2.out.set_ 0 (.int .i64 b)).drew
      have p3 : Hid (Below w.heap.size w (u2.setCell ⟨w.heap.size, 0, none⟩ (.int .i64 b)).drew) := (p2.out.setCell (p := ⟨w.heap.size, 0, none⟩) (by simp) _).drew
      clear hb2 hS1 hbx1
      go_wp2_with fail
      go_still_tail 12, (by kernel_rfl)
      change wpList _ _ _ _ _ u2.drew
      go_wp2_with fail
      obtain ⟨u3, hu3⟩ : ∃ u, (u2.setCell ⟨w.heap.size, 0, none⟩ (.int .i64 b)).drew = u := ⟨_, rfl⟩
      rw [hu3] at hS3 hbx3 p3
      rw [hu3]
      clear cb2 fb2 lb2 hbx2 hS2 hu3
      refine (Prove_some A1 N c1 ls k _ hS3.out hc1 hr.out hkN).mono ?_
      rw [hpf.out]
      rintro e u4 ⟨A3, n3, c3, rfl, hc3, hPf, hb4⟩
      obtain rfl : np = n3 := by rw [← hnp.out]; exact hPf.len
      have hS4 : Hid (Strs u4 u4.heap.size A1 N ls) := Reads.topS (Strs.to hS3.out hb4)
      have hP4 : Hid (Strs u4 u4.heap.size A3 np pf) := Reads.topS hPf
      have hbx4 := hid_mk (hbx3.out.keep hb4)
      have p4 := hid_mk (after (w := w) hb4 p3.out).1
      have hfr4 : Hid (∀ b o, A3 = some ⟨b, o, none⟩ → b < u3.heap.size ∨ True) := fun _ _ _ => .inr trivial
      clear hb4 hPf hS3 hbx3
      obtain ⟨b0, o0, l', rfl, hbl, _, hsk, hcell⟩ := hS4.out.at_ hkN
      obtain rfl : l = l' := by have h1 := hl.out; rw [hsk] at h1; injection h1 with h1; exact h1.symm
      replace hsk := hid_mk hsk
      have k0 : (0 : Int) ≤ k := by omega
      have k1 : (k : Int) < N := by omega
      go_wp2_with fail
      go_quiet (fail)
      obtain ⟨u5, hu5⟩ : ∃ u, u4.drewN nq = u := ⟨_, rfl⟩
      rw [hu5]
      have hS5 : Hid (Strs u5 u5.heap.size (some ⟨b0, o0, none⟩) N ls) := by rw [← hu5]; exact hS4.out
      have hP5 : Hid (Strs u5 u5.heap.size A3 np pf) := by rw [← hu5]; exact hP4.out
      have hbx5 : Hid (Blk u5 w.heap.size 3 #[.int .i64 b]) := by rw [← hu5]; exact hbx4.out
      have p5 : Hid (Below w.heap.size w u5) := by rw [← hu5]; exact hid_mk (below_drewN p4.out _)
      have cb5 : u5.cell? ⟨w.heap.size, 0, none⟩ = some (.int .i64 b) := hbx5.out.cell 0
      have lb5 := hbx5.out.lt
      replace hu5 := hid_mk hu5
      clear hS4 hP4 hbx4 p4 hcell hbl hfr4
      have v1 : IntKind.i64.wrap ((k : Int) + 1) = (k : Int) + 1 := IntWalk.i64_in _ (by omega)
      have v2 : IntKind.i64.wrap ((k : Int) + 1 + b) = (k : Int) + 1 + b := IntWalk.i64_in _ (by omega)
      have v3 : ((k : Int) + 1 + b).tmod N = (((k + 1 + b) % N : Nat) : Int) := rfl
      have v4 : (k + 1 + b) % N < N := Nat.mod_lt _ hNp
      obtain ⟨q, hq⟩ : ∃ q, (k + 1 + b) % N = q := ⟨_, rfl⟩
      rw [hq] at v3 v4
      have v5 : IntKind.i64.wrap (q : Int) = q := IntWalk.i64_in _ (by omega)
      have v6 : (0 : Int) ≤ q := by omega
      have v7 : (q : Int) < N := by omega
      have v8 : IntKind.i64.wrap (((k : Int) + 1 + b).tmod N) = q := by rw [v3, v5]
      have hSc := hS5
      obtain ⟨b1, o1, l2, hAb, hbl2, _, hsk2, hcell2⟩ := hS5.out.at_ v4
      have hAb' : b0 = b1 ∧ o0 = o1 := by injection hAb with e; injection e with e1 e2; exact ⟨e1, e2⟩
      obtain ⟨rfl, rfl⟩ := hAb'
      have hl2 := hid_mk hsk2
      replace hq := hid_mk hq
      clear hsk2 hAb
      have hst := str_eq l2 l
      obtain ⟨c, hck⟩ : ∃ c, checkB rt N q l pf = c := ⟨_, rfl⟩
      by_cases hll : l2 = l
      · subst hll
        clear hst
        replace hck := hid_mk hck
        have hsm : (l2.toList == l2.toList) = true := by simp
        go_wp2
        refine ends_ret hQ (results_tmp rfl _ _ _) rfl ?_
        exact ⟨ret_bool rfl, p5.out⟩
      · have hcc : Hid (c = true → collB (madeTs ls) (shownTI N q l pf) = true) := fun e => H0.out q l2 l pf hl2.out (fun e => hll e.symm) (by rw [hck, e])
        replace hck := hid_mk hck
        have hq2 : (l2.toList == l.toList) = false := by rw [hst]; simp [hll]
        have hq3 : ¬ l2.toList = l.toList := fun e => hll (by have h := str_eq l2 l; rw [e] at h; simpa using h.symm)
        clear hst
        replace hll := hid_mk hll
        go_wp2_with fail
        refine (Check_any rt (N : Int) (q : Int) l A3 np c3 pf _ hP5.out (by omega) (by omega)).mono ?_
        rw [hck.out]
        rintro e w3 ⟨rfl, hb3⟩
        have q3 := hid_mk (after (w := w) hb3 p5.out).1
        have hS3 : Hid (Strs w3 w3.heap.size (some ⟨b0, o0, none⟩) N ls) := Reads.topS (Strs.to hSc.out hb3)
        have hps3 : Hid (Strs w3 w3.heap.size A3 np pf) := Reads.topS (Strs.to hP5.out hb3)
        clear hb3
        cases c
        · go_wp2
          refine ends_ret hQ (results_tmp rfl _ _ _) rfl ?_
          exact ⟨ret_bool rfl, q3.out⟩
        · have hcoll := hid_mk (hcc.out rfl)
          have hNl : ls.length ≤ 40 := by rw [hN.out]; exact hl40
          have hbA : Hid (Below w.heap.size w (w3.alloc (.cells #[.slice none 0 0] 25))) := q3.out.alloc q3.out.size _
          have hbB : Hid (Below w.heap.size w ((w3.alloc (.cells #[.slice none 0 0] 25)).alloc (.cells #[.slice none 0 0] 25))) := hbA.out.alloc hbA.out.size _
          have hsz3 := q3.out.size
          have hMa : Hid (MadeIs ((w3.alloc (.cells #[.slice none 0 0] 25)).alloc (.cells #[.slice none 0 0] 25)) w.heap.size w3.heap.size (.slice none 0 0) []) := (made_new w3 w q3.out.size).keep (by go_grown)
          have hMb : Hid (MadeIs ((w3.alloc (.cells #[.slice none 0 0] 25)).alloc (.cells #[.slice none 0 0] 25)) w.heap.size (w3.heap.size + 1) (.slice none 0 0) []) := by
            have h1 := made_new (w3.alloc (.cells #[.slice none 0 0] 25)) w hbA.out.size
            rw [World.size_alloc] at h1
            exact h1
          have hSB : Hid (Strs ((w3.alloc (.cells #[.slice none 0 0] 25)).alloc (.cells #[.slice none 0 0] 25)) w3.heap.size (some ⟨b0, o0, none⟩) N ls) := Strs.to hS3.out (by go_grown)
          have hPB : Hid (Strs ((w3.alloc (.cells #[.slice none 0 0] 25)).alloc (.cells #[.slice none 0 0] 25)) w3.heap.size A3 np pf) := Strs.to hps3.out (by go_grown)
          have hawA : 0 < N → Away (some ⟨b0, o0, none⟩) w3.heap.size (Value.slice none 0 0).ownBlock := fun e => away_old hS3.out e (Nat.le_refl _) (by simp [Value.ownBlock])
          have hawP : 0 < np → Away A3 (w3.heap.size + 1) (Value.slice none 0 0).ownBlock := fun e => away_old hps3.out e (by omega) (by simp [Value.ownBlock])
          replace hawA := hid_mk hawA
          replace hawP := hid_mk hawP
          go_wp2_with fail
          refine (MRoot_any hbB.out w3.heap.size (.slice none 0 0) [] hMa.out (some ⟨b0, o0, none⟩) N c1 ls hSB.out hawA.out (by omega) hc1 h32.out (by simp)).mono ?_
          rintro e w4 ⟨va, rfl, hMa4, hT4, hm4⟩
          have q4 : Hid (Below w.heap.size w w4) := TwoM.below hT4 hbB.out hbB.out.size hsz3 (fun k hk => by simp [Value.ownBlock] at hk)
          have hMb4 : Hid (MadeIs w4 w.heap.size (w3.heap.size + 1) (.slice none 0 0) []) := hMb.out.other hMa.out (by omega) (fun k hk => by simp [Value.ownBlock] at hk) hT4
          have hP4 : Hid (Strs w4 w4.heap.size A3 np pf) := by
            rcases Nat.eq_zero_or_pos np with e | e
            · exact ⟨hPB.out.1, fun h => absurd h (by omega)⟩
            · exact Reads.two hPB.out hT4 (away_old hps3.out e (Nat.le_refl _) (by simp [Value.ownBlock]))
          have hs4 : w3.heap.size + 1 < w4.heap.size := hMb4.out.lt
          have hawP4 : 0 < np → Away A3 (w3.heap.size + 1) (Value.slice none 0 0).ownBlock := hawP.out
          replace hawP4 := hid_mk hawP4
          rw [List.nil_append] at hMa4
          replace hMa4 := hid_mk hMa4
          clear hT4 hm4 hMa hMb hSB hPB
          go_wp2_with fail
          refine (MShown_any q4.out (w3.heap.size + 1) (.slice none 0 0) [] hMb4.out (N : Int) (q : Int) l A3 np c3 pf hP4.out hawP4.out (by omega) (by simp)).mono ?_
          rintro e w5 ⟨vb, hVe, hMb5, hT5, hm5⟩
          have q5 : Hid (Below w.heap.size w w5) := TwoM.below hT5 q4.out q4.out.size (by omega) (fun k hk => by simp [Value.ownBlock] at hk)
          have hMa5 : Hid (MadeIs w5 w.heap.size w3.heap.size va (madeTs ls)) := hMa4.out.other hMb4.out (by omega) (fun k _ => by simp [Value.ownBlock]) hT5
          rw [List.nil_append] at hMb5
          replace hMb5 := hid_mk hMb5
          obtain ⟨Aa, ca, rfl, hca, _⟩ := hMa5.out.2.2.slice
          obtain ⟨Ab, cb, rfl, hcb, _⟩ := hMb5.out.2.2.slice
          have hSa : Hid (Strs w5 w5.heap.size Aa (madeTs ls).length (madeTs ls)) := hMa5.out.2.2.reads
          have hSb : Hid (Strs w5 w5.heap.size Ab (shownTI (N : Int) (q : Int) l pf).length (shownTI (N : Int) (q : Int) l pf)) := hMb5.out.2.2.reads
          have ca0 : w5.cell? ⟨w3.heap.size, 0, none⟩ = some (.slice Aa (madeTs ls).length ca) := hMa5.out.2.1.cell 0
          have cb0 : w5.cell? ⟨w3.heap.size + 1, 0, none⟩ = some (.slice Ab (shownTI (N : Int) (q : Int) l pf).length cb) := hMb5.out.2.1.cell 0
          have hla := hMa5.out.lt
          have hlb := hMb5.out.lt
          have hna := madeTs_len (ls := ls)
          have hnb := shownTI_len (n := (N : Int)) (i := (q : Int)) (leaf := l) (ps := pf)
          have hza := madeTs_size h32.out
          have hzb := shownTI_size (n := (N : Int)) (i := (q : Int)) (leaf := l) (ps := pf)
          obtain ⟨TA, hTA⟩ : ∃ T, madeTs ls = T := ⟨_, rfl⟩
          obtain ⟨TB, hTB⟩ : ∃ T, shownTI (N : Int) (q : Int) l pf = T := ⟨_, rfl⟩
          rw [hTA] at hSa ca0 hna hza
          rw [hTB] at hSb cb0 hnb hzb
          have hcoll2 : Hid (collB TA TB = true) := by rw [Hid, ← hTA, ← hTB]; exact hcoll.out
          obtain ⟨na, hnae⟩ : ∃ n, TA.length = n := ⟨_, rfl⟩
          obtain ⟨nb, hnbe⟩ : ∃ n, TB.length = n := ⟨_, rfl⟩
          rw [hnae] at hSa ca0 hna
          rw [hnbe] at hSb cb0 hnb
          replace hTA := hid_mk hTA
          replace hTB := hid_mk hTB
          replace hnae := hid_mk hnae
          replace hnbe := hid_mk hnbe
          replace hza := hid_mk hza
          replace hzb := hid_mk hzb
          have hnab : na ≤ 8796093022208 := by omega
          have hnbb : nb ≤ 8796093022208 := by omega
          clear hMa5 hMb5 hT5 hm5 hMb4 hMa4 hP4
          try obtain ⟨V, hV⟩ : ∃ V, shownVI (N : Int) (q : Int) l pf = V := ⟨_, rfl⟩
          try rw [hV] at hVe
          try replace hV := hid_mk hV
          subst hVe
          go_wp2_with fail
          go_still_tail 8, (by kernel_rfl)
          change wpList _ _ _ _ _ w5.drew
          go_wp2_with fail
          refine (Collide_any Aa na ca TA Ab nb cb TB w5.drew hSa.out hSb.out hnab hnbb hza.out hzb.out).mono ?_
          rw [hcoll2.out]
          rintro e w6 ⟨rfl, hb6⟩
          have q6 := (after (w := w) hb6 q5.out.drew).1
          go_wp2
          refine ends_ret hQ (results_tmp rfl _ _ _) rfl ?_
          exact ⟨rfl, q6⟩
theorem LawTurned_walk {w : World} (a0 : Option Addr) (len0 cap0 : Nat) (ss0 : List ByteArray) (i0 : Strs w w.heap.size a0 len0 ss0) (_lc0 : len0 ≤ cap0) (_hs0 : cap0 * 16 ≤ 140737488351232) (b0 : ∀ s ∈ ss0, s.size ≤ 140737488351232) (a1 : Int) (_lo1 : -9223372036854775808 ≤ a1) (_hi1 : a1 ≤ 9223372036854775807) (a2 : Int) (_lo2 : -9223372036854775808 ≤ a2) (_hi2 : a2 ≤ 9223372036854775807) (a3 : Int) (_lo3 : -9223372036854775808 ≤ a3) (_hi3 : a3 ≤ 9223372036854775807) :
    Calls Try.prog 8 #[.slice a0 len0 cap0, .int .i64 a1, .int .i64 a2, .int .i64 a3] w fun e w' => e = .returned (.bool true) ∧ Below w.heap.size w w' := LawTurned_any a0 len0 cap0 ss0 a1 a2 a3 w i0 b0
end Go.Proofs.Ytlnncpilgpafdaa
