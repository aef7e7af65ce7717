/-
  WHAT IS PROVED HERE: what merkle's Check hands back. Conditions: slices of at most 2^43 strings.
-/
import Derived.Test.YtlnncpilgpafdaaMrk2
import Derived.Lib.Strings
namespace Go.Proofs.Ytlnncpilgpafdaa
open Go.RowKit

theorem str_eq (a b : ByteArray) : (a.toList == b.toList) = decide (a = b) := by
  rw [Lib.toList_data, Lib.toList_data, Bool.eq_iff_iff]
  simp only [beq_iff_eq, decide_eq_true_eq]
  exact ⟨ba_eq, fun e => by rw [e]⟩
/-- may it be asked whether a leaf is shown? -/
def askB (n i : Int) (leaf : ByteArray) (ps : List ByteArray) : Prop := 1 ≤ n ∧ n ≤ 4096 ∧ 0 ≤ i ∧ i < n ∧ leaf.size = 32 ∧ ps.any bad32 = false
instance (n i : Int) (leaf : ByteArray) (ps : List ByteArray) : Decidable (askB n i leaf ps) := inferInstanceAs (Decidable (_ ∧ _))
/-- the root that is shown -/
def shownB (n i : Nat) (leaf : ByteArray) (ps : List ByteArray) : Option ByteArray := (climb dB n i leaf ps).map fun t => dB (crownT n t)
def checkB (root : ByteArray) (n i : Int) (leaf : ByteArray) (ps : List ByteArray) : Bool := if askB n i leaf ps then decide (shownB n.toNat i.toNat leaf ps = some root) else false
theorem Check_no (root : ByteArray) (n i : Int) (leaf : ByteArray) (A : Option Addr) (np cap : Nat) (ps : List ByteArray) (w : World) {B : Nat} (h : Strs w B A np ps) (hn : np ≤ 8796093022208) (ha : ¬ askB n i leaf ps) :
    Calls Try.prog 10 #[.string root, .int .i64 n, .int .i64 i, .string leaf, .slice A np cap] w fun e w' => e = .returned (.bool false) ∧ w = w' := by
  have hs : (leaf.size ≠ 32 → ((leaf.size : Int) != 32) = true) := by intro h; simp; omega
  have hs2 : (leaf.size = 32 → ((leaf.size : Int) != 32) = false) := by intro h; simp; omega
  rcases (by
    unfold askB at ha
    rcases Classical.em (n < 1) with h1 | h1
    · exact .inl h1
    rcases Classical.em (4096 < n) with h2 | h2
    · exact .inr (.inl ⟨by omega, h2⟩)
    rcases Classical.em (i < 0) with h3 | h3
    · exact .inr (.inr (.inl ⟨by omega, by omega, h3⟩))
    rcases Classical.em (n ≤ i) with h4 | h4
    · exact .inr (.inr (.inr (.inl ⟨by omega, by omega, by omega, h4⟩)))
    rcases Classical.em (leaf.size = 32) with h5 | h5
    · right; right; right; right; right
      refine ⟨by omega, by omega, by omega, by omega, h5, ?_⟩
      cases hb : ps.any bad32
      · exact absurd ⟨by omega, by omega, by omega, by omega, h5, hb⟩ ha
      · rfl
    · exact .inr (.inr (.inr (.inr (.inl ⟨by omega, by omega, by omega, by omega, h5⟩)))) :
      n < 1 ∨ (1 ≤ n ∧ 4096 < n) ∨ (1 ≤ n ∧ n ≤ 4096 ∧ i < 0) ∨ (1 ≤ n ∧ n ≤ 4096 ∧ 0 ≤ i ∧ n ≤ i) ∨ (1 ≤ n ∧ n ≤ 4096 ∧ 0 ≤ i ∧ i < n ∧ leaf.size ≠ 32) ∨ (1 ≤ n ∧ n ≤ 4096 ∧ 0 ≤ i ∧ i < n ∧ leaf.size = 32 ∧ ps.any bad32 = true))
    with h1 | ⟨h1, h2⟩ | ⟨h1, h2, h3⟩ | ⟨h1, h2, h3, h4⟩ | ⟨h1, h2, h3, h4, h5⟩ | ⟨h1, h2, h3, h4, h5, h6⟩
  case' inr.inr.inr.inr.inl => have h7 := hs h5
  case' inr.inr.inr.inr.inr => (have h7 := hs2 h5; replace h5 := hid_mk h5; replace h6 := hid_mk h6)
  all_goals
    clear ha hs hs2
    refine calls_of_wpQ Try.func10 rfl ?_
    intro Q hQ
    simp only [Try.ntmps10, List.size_toArray, List.length_cons, List.length_nil, Nat.reduceAdd, Nat.reduceSub, Array.replicate_succ, Array.replicate_zero, List.push_toArray, List.append_toArray, List.nil_append, List.cons_append]
    go_wp2_with (go_at_call 25; refine (ContainsF_anyC A np cap ps _ h hn).mono ?_; rw [h6.out]; rintro e w1 ⟨rfl, rfl⟩)
    refine ends_ret hQ (results_tmp rfl _ _ _) rfl ?_
    exact ⟨rfl, rfl⟩
set_option maxHeartbeats 3200000 in
theorem Check_yes (root : ByteArray) (n i : Nat) (leaf : ByteArray) (A : Option Addr) (np cap : Nat) (ps : List ByteArray) (w : World) {B : Nat} (h : Strs w B A np ps) (hn : np ≤ 8796093022208) (hc : np ≤ cap) (hn1 : 1 ≤ n) (hn2 : n ≤ 4096) (hi : i < n) (hl : leaf.size = 32) (hp : ps.any bad32 = false) :
    Calls Try.prog 10 #[.string root, .int .i64 n, .int .i64 i, .string leaf, .slice A np cap] w fun e w' => e = .returned (.bool (decide (shownB n i leaf ps = some root))) ∧ Below w.heap.size w w' := by
  obtain ⟨j0, hj0, hjz, hj1, hj2⟩ := info_parts16 strJ
  have hls : ((leaf.size : Int) != 32) = false := by simp; omega
  have hR0 : Hid (Strs w w.heap.size A np ps) := Reads.topS h
  have h32 : Hid (∀ s ∈ ps, s.size = 32) := by
    intro s hs
    have := List.any_eq_false.1 hp s hs
    unfold bad32 at this
    simpa using this
  have hd1 : decide ((n : Int) < 1) = false := decide_eq_false (by omega)
  have hd2 : decide ((4096 : Int) < n) = false := decide_eq_false (by omega)
  have hd2' : decide (4096 < n) = false := decide_eq_false (by omega)
  have hd3 : decide ((i : Int) < 0) = false := decide_eq_false (by omega)
  have hd4 : decide ((n : Int) ≤ i) = false := decide_eq_false (by omega)
  have hd4' : decide (n ≤ i) = false := decide_eq_false (by omega)
  have hd1' : decide (n < 1) = false := decide_eq_false (by omega)
  have hd0 : decide (n = 0) = false := decide_eq_false (by omega)
  replace hp := hid_mk hp
  replace hl := hid_mk hl
  refine calls_of_wpQ Try.func10 rfl ?_
  intro Q hQ
  simp only [Try.ntmps10, List.size_toArray, List.length_cons, List.length_nil, Nat.reduceAdd, Nat.reduceSub, Array.replicate_succ, Array.replicate_zero, List.push_toArray, List.append_toArray, List.nil_append, List.cons_append]
  go_wp2_with (go_at_call 25; refine (ContainsF_anyC A np cap ps _ h hn).mono ?_; rw [hp.out]; rintro e w1 ⟨rfl, rfl⟩)
  clear h
  go_loopw [2, 4, 11, 12] (fun iv s xv mv wr => ∃ (j n' c' m : Nat) (A' : Option Addr) (x : ByteArray) (rest : List ByteArray), iv = .int .i64 j ∧ j < m ∧ m ≤ 4096 ∧ s = .slice A' n' c' ∧ n' ≤ c' ∧ xv = .string x ∧ mv = .int .i64 m ∧ Hid (Strs w w.heap.size A' n' rest) ∧ Hid (∀ s ∈ rest, s.size = 32) ∧ Hid (x.size = 32) ∧ Hid (climb dB n i leaf ps = climb dB m j x rest) ∧ Hid (Below w.heap.size w wr)) (fun _ _ _ mv _ => (intOf mv).toNat)
  case atStart => exact ⟨i, np, cap, n, A, leaf, ps, rfl, hi, hn2, rfl, hc, rfl, rfl, hR0, h32, hl, rfl, hid_mk (Below.refl _ _)⟩
  case round =>
    clear hR0 h32 hc hp hls
    obtain ⟨j, n', c', m, A', x, rest, rfl, hj, hm, rfl, hc', rfl, rfl, hR, h32, hx, hcl, hb⟩ := hrel
    have hxor := xor_one j (by omega)
    obtain ⟨q, hq⟩ : ∃ q, beside j = q := ⟨_, rfl⟩
    have hbs := beside_sib hj
    rw [hq] at hxor hbs
    replace hq := hid_mk hq
    by_cases hlt : 1 < m
    · obtain ⟨jh, hjhe⟩ : ∃ q, j / 2 = q := ⟨_, rfl⟩
      have hjh : (j : Int) / 2 = (jh : Int) := by omega
      obtain ⟨mh, hmhe⟩ : ∃ q, (m + 1) / 2 = q := ⟨_, rfl⟩
      have hmh : ((m : Int) + 1) / 2 = (mh : Int) := by omega
      have hjm : jh < mh := by omega
      have hmm : mh ≤ 4096 := by omega
      have hml : mh < m := by omega
      by_cases hs : sib m j
      · have hqm : q < m := hbs.2 hs
        have k1 : (q : Int) < m := by omega
        have hs' := hs
        replace hs := hid_mk hs
        clear hbs
        match rest, hR, h32, hcl with
        | [], hR, _, hcl =>
          have hl0 : n' = 0 := by have := hR.out.len; simpa using this.symm
          subst hl0
          have hf : Hid (decide (shownB n i leaf ps = some root) = false) := by
            unfold Hid shownB
            rw [hcl.out, climb_short dB hlt hs']; rfl
          clear hs' hjhe hmhe
          go_wp2
          refine ends_ret hQ (results_tmp rfl _ _ _) rfl ?_
          exact ⟨ret_bool hf.out.symm, hb.out⟩
        | p :: r, hR, h32, hcl =>
          have hl := hR.out.len
          obtain ⟨b0, o0, rfl, hbl, _, hcell⟩ := hR.out.2 (by simp at hl; omega)
          have hn0 : 0 < n' := by simp at hl; omega
          have hnn : ((n' : Int) == 0) = false := by simp; omega
          have c0 : wr.cell? ⟨b0, o0, none⟩ = some (.string p) := ((bcell hb.out).1 _ _ hbl).trans (hcell 0 _ rfl)
          have hblr : b0 < wr.heap.size := Nat.lt_of_lt_of_le hbl hb.out.size
          have hR2 := hR.out.cutA (k := 1) (cap := c') (by omega) hc'
          clear hl hcell
          by_cases hev : j % 2 = 0
          · have hpar : ((j : Int) % 2 == 0) = true := by simp; omega
            have hcl2 : Hid (climb dB n i leaf ps = climb dB mh jh (dB (pairT x p)) r) := by rw [Hid, hcl.out, climb_sib dB hlt hs', ← hmhe, ← hjhe]; unfold duo; rw [if_pos hev]
            have hps : p.size ≤ 137438953472 := by rw [h32.out p (by simp)]; omega
            have hxs : x.size ≤ 137438953472 := by rw [hx.out]; omega
            obtain ⟨y, hy⟩ : ∃ y, dB (pairT x p) = y := ⟨_, rfl⟩
            rw [hy] at hcl2
            have hy32 : Hid (y.size = 32) := by rw [← hy]; exact dB_32 _
            replace hy := hid_mk hy
            clear hev
            replace hmhe := hid_mk hmhe
            replace hjhe := hid_mk hjhe
            go_wp2_with fail
            refine (pair_any x p _ hxs hps).mono ?_
            rw [hy.out]
            rintro e w2 ⟨rfl, hb2⟩
            have q2 := hid_mk (after (w := w) hb2 hb.out).1
            have hsl := run_slice_from (P := Try.prog) (w := w2) 22 9 Try.underlying22 j0 hj0 1 hj1 (some ⟨b0, o0, none⟩) n' c' 1 (by omega) (by omega)
            clear hb2
            go_wp2
            go_roundw
            case rel => exact ⟨jh, n' - 1, c' - 1, mh, _, y, r, rfl, hjm, hmm, rfl, by omega, rfl, by rw [← hmh], hR2, fun s hs => h32.out s (by simp [hs]), hy32, hcl2, q2⟩
            case measure => simp [intOf]; omega
          · have hpar : ((j : Int) % 2 == 0) = false := by simp; omega
            have hcl2 : Hid (climb dB n i leaf ps = climb dB mh jh (dB (pairT p x)) r) := by rw [Hid, hcl.out, climb_sib dB hlt hs', ← hmhe, ← hjhe]; unfold duo; rw [if_neg hev]
            have hps : p.size ≤ 137438953472 := by rw [h32.out p (by simp)]; omega
            have hxs : x.size ≤ 137438953472 := by rw [hx.out]; omega
            obtain ⟨y, hy⟩ : ∃ y, dB (pairT p x) = y := ⟨_, rfl⟩
            rw [hy] at hcl2
            have hy32 : Hid (y.size = 32) := by rw [← hy]; exact dB_32 _
            replace hy := hid_mk hy
            clear hev
            replace hmhe := hid_mk hmhe
            replace hjhe := hid_mk hjhe
            go_wp2_with fail
            refine (pair_any p x _ hps hxs).mono ?_
            rw [hy.out]
            rintro e w2 ⟨rfl, hb2⟩
            have q2 := hid_mk (after (w := w) hb2 hb.out).1
            have hsl := run_slice_from (P := Try.prog) (w := w2) 22 9 Try.underlying22 j0 hj0 1 hj1 (some ⟨b0, o0, none⟩) n' c' 1 (by omega) (by omega)
            clear hb2
            go_wp2
            go_roundw
            case rel => exact ⟨jh, n' - 1, c' - 1, mh, _, y, r, rfl, hjm, hmm, rfl, by omega, rfl, by rw [← hmh], hR2, fun s hs => h32.out s (by simp [hs]), hy32, hcl2, q2⟩
            case measure => simp [intOf]; omega
      · have hqm : ¬ q < m := fun e => hs (hbs.1 e)
        have k1 : ¬ (q : Int) < m := by omega
        have hcl2 : Hid (climb dB n i leaf ps = climb dB mh jh x rest) := by rw [Hid, hcl.out, climb_lone dB hlt hs, ← hmhe, ← hjhe]
        replace hs := hid_mk hs
        replace hmhe := hid_mk hmhe
        replace hjhe := hid_mk hjhe
        clear hbs
        go_wp2
        go_roundw
        case rel => exact ⟨jh, n', c', mh, A', x, rest, rfl, hjm, hmm, rfl, hc', rfl, by rw [← hmh], hR, h32, hx, hcl2, hb⟩
        case measure => simp [intOf]; omega
    · clear hbs
      by_cases h0 : n' = 0
      · subst h0
        have hrest : rest = [] := List.eq_nil_of_length_eq_zero hR.out.len
        have hf : Hid (decide (shownB n i leaf ps = some root) = decide (dB (crownT n x) = root)) := by
          unfold Hid shownB
          rw [hcl.out, climb_done dB hlt, if_pos hrest]; simp
        have hxs : x.size ≤ 137438953472 := by rw [hx.out]; omega
        replace hrest := hid_mk hrest
        obtain ⟨y, hy⟩ : ∃ y, dB (crownT n x) = y := ⟨_, rfl⟩
        rw [hy] at hf
        replace hy := hid_mk hy
        go_wp2_with fail
        refine (crown_any n x _ (by omega) hxs).mono ?_
        rw [hy.out]
        rintro e w2 ⟨rfl, hb2⟩
        have q2 := hid_mk (after (w := w) hb2 hb.out).1
        go_wp2
        refine ends_ret hQ (results_tmp rfl _ _ _) rfl ?_
        exact ⟨ret_bool (by rw [hf.out, ← str_eq]), q2.out⟩
      · have hnn : ((n' : Int) == 0) = false := by simp; omega
        have hrest : ¬ rest = [] := by intro e; have := hR.out.len; rw [e] at this; simp at this; omega
        have hf : Hid (decide (shownB n i leaf ps = some root) = false) := by
          unfold Hid shownB
          rw [hcl.out, climb_done dB hlt, if_neg hrest]; rfl
        replace hrest := hid_mk hrest
        go_wp2
        refine ends_ret hQ (results_tmp rfl _ _ _) rfl ?_
        exact ⟨ret_bool hf.out.symm, hb.out⟩
theorem Check_any (root : ByteArray) (n i : Int) (leaf : ByteArray) (A : Option Addr) (np cap : Nat) (ps : List ByteArray) (w : World) {B : Nat} (h : Strs w B A np ps) (hn : np ≤ 8796093022208) (hc : np ≤ cap) :
    Calls Try.prog 10 #[.string root, .int .i64 n, .int .i64 i, .string leaf, .slice A np cap] w fun e w' => e = .returned (.bool (checkB root n i leaf ps)) ∧ Below w.heap.size w w' := by
  unfold checkB
  by_cases ha : askB n i leaf ps
  · rw [if_pos ha]
    obtain ⟨h1, h2, h3, h4, h5, h6⟩ := ha
    obtain ⟨n, rfl⟩ := Int.eq_ofNat_of_zero_le (show 0 ≤ n by omega)
    obtain ⟨i, rfl⟩ := Int.eq_ofNat_of_zero_le h3
    exact Check_yes root n i leaf A np cap ps w h hn hc (by omega) (by omega) (by omega) h5 h6
  · rw [if_neg ha]
    refine (Check_no root n i leaf A np cap ps w h hn ha).mono ?_
    rintro e w' ⟨rfl, rfl⟩
    exact ⟨rfl, Below.refl _ _⟩
end Go.Proofs.Ytlnncpilgpafdaa
