/-
  WHAT IS PROVED HERE: the walk of the law MerkleChecks: it returns true and writes nothing that was there. No condition.
-/
import Derived.Test.YtlnncpilgpafdaaMrk8
import Derived.Test.YtlnncpilgpafdaaLaw05b
namespace Go.Proofs.Ytlnncpilgpafdaa
open Go.RowKit

def shownVI (n i : Int) (leaf : ByteArray) (ps : List ByteArray) : Value := if askB n i leaf ps then shownV n.toNat i.toNat leaf ps else .tuple #[.string ⟨#[]⟩, .bool false]
def shownTI (n i : Int) (leaf : ByteArray) (ps : List ByteArray) : List ByteArray := if askB n i leaf ps then shownTs n.toNat i.toNat leaf ps else []
/-- what is shown, and what is checked, are one -/
theorem shown_check (root : ByteArray) (n i : Int) (leaf : ByteArray) (ps : List ByteArray) :
    ∃ r ok d, shownVI n i leaf ps = .tuple #[.string r, .bool ok] ∧ (r.toList == root.toList) = d ∧ checkB root n i leaf ps = (ok && d) := by
  unfold shownVI checkB
  by_cases ha : askB n i leaf ps
  · rw [if_pos ha, if_pos ha]
    unfold shownV shownB
    cases hc : climb dB n.toNat i.toNat leaf ps with
    | none => exact ⟨⟨#[]⟩, false, _, rfl, rfl, by simp⟩
    | some t => exact ⟨dB (crownT n.toNat t), true, _, rfl, rfl, by rw [str_eq]; simp⟩
  · rw [if_neg ha, if_neg ha]
    exact ⟨⟨#[]⟩, false, _, rfl, rfl, by simp⟩
theorem MShown_any {W w : World} (hb : Below W.heap.size W w) (g : Nat) (v : Value) (ts : List ByteArray) (hM : MadeIs w W.heap.size g v ts) (n i : Int) (leaf : ByteArray) (A : Option Addr) (np cap : Nat) (ps : List ByteArray) {B : Nat} (h : Strs w B A np ps) (haw : 0 < np → Away A g v.ownBlock) (hn : np ≤ 4096) (hts : ts.length ≤ 400000) :
    Calls Try.prog 9 #[.pointer (some ⟨g, 0, none⟩), .int .i64 n, .int .i64 i, .string leaf, .slice A np cap] w (RetShown W.heap.size g v (ts ++ shownTI n i leaf ps) (shownVI n i leaf ps) w) := by
  unfold shownVI shownTI
  by_cases ha : askB n i leaf ps
  · rw [if_pos ha, if_pos ha]
    obtain ⟨h1, h2, h3, h4, h5, h6⟩ := ha
    obtain ⟨n, rfl⟩ := Int.eq_ofNat_of_zero_le (show 0 ≤ n by omega)
    obtain ⟨i, rfl⟩ := Int.eq_ofNat_of_zero_le h3
    exact MShown_yes hb g v ts hM n i leaf A np cap ps h haw hn hts (by omega) (by omega) (by omega) h5 h6
  · rw [if_neg ha, if_neg ha]
    refine (MShown_no g n i leaf A np cap ps w h hn ha).mono ?_
    rintro e w' ⟨rfl, rfl⟩
    exact ⟨v, rfl, by rw [List.append_nil]; exact hM, TwoM.refl _ _ _, Moved.refl _ _⟩
set_option maxHeartbeats 1600000 in
theorem LawChecks_any (root : ByteArray) (n i : Int) (leaf : ByteArray) (A : Option Addr) (np cap : Nat) (ps0 : List ByteArray) (w : World) (h0 : Strs w w.heap.size A np ps0) (hc0 : np ≤ cap) (hcap : cap * 16 ≤ 140737488351232) :
    Calls Try.prog 3 #[.string root, .int .i64 n, .int .i64 i, .string leaf, .slice A np cap] w fun e w' => e = .returned (.bool true) ∧ Below w.heap.size w w' := by
  obtain ⟨j0, hj0, hjz, hj1, hj2⟩ := info_parts16 strJ
  have hla : Hid ((dB (leafT ⟨#[97]⟩)).size = 32) := dB_32 _
  obtain ⟨lf, hlf⟩ : ∃ l, dB (leafT ⟨#[97]⟩) = l := ⟨_, rfl⟩
  rw [hlf] at hla
  have hl32 : ((lf.size : Int) == 32) = true := by rw [hla.out]; rfl
  replace hlf := hid_mk hlf
  have hqA : Below w.heap.size w (w.alloc (.cells #[.slice none 0 0] 25)) := by go_grown
  have hM := made_new w w (Nat.le_refl _)
  by_cases hlt : 100 < np
  case' pos =>
    obtain ⟨m, hm⟩ : ∃ m, m = 100 := ⟨_, rfl⟩
    have hps : Strs w w.heap.size A m (ps0.take m) := h0.take (by omega)
    have hsl := run_slice_upto (P := Try.prog) (w := w) 22 9 Try.underlying22 j0 hj0 A np cap 100 (by omega) (by omega)
    obtain ⟨ps, hpe⟩ : ∃ ps, ps0.take m = ps := ⟨_, rfl⟩
    rw [hpe] at hps
    clear hpe h0
  case' neg =>
    obtain ⟨m, hm⟩ : ∃ m, m = np := ⟨_, rfl⟩
    have hps : Strs w w.heap.size A m ps0 := by rw [hm]; exact h0
    obtain ⟨ps, hpe⟩ : ∃ ps, ps0 = ps := ⟨_, rfl⟩
    rw [hpe] at hps
    clear hpe h0
  all_goals
    have hmb : m ≤ 100 ∧ m ≤ cap := by omega
    obtain ⟨hm100, hmc⟩ := hmb
    have hps2 := hps.to (w' := w.alloc (.cells #[.slice none 0 0] 25)) (by go_grown)
    have haw : 0 < m → Away A w.heap.size (Value.slice none 0 0).ownBlock := fun e => away_old hps e (Nat.le_refl _) (by simp [Value.ownBlock])
    have hShown := MShown_any hqA w.heap.size (.slice none 0 0) [] hM n i leaf A m cap ps hps2 haw (by omega) (by simp)
    obtain ⟨r, ok, d, hV, hd, hck⟩ := shown_check root n i leaf ps
    rw [hV] at hShown
    subst hm
    replace hV := hid_mk hV
    replace hck := hid_mk hck
    clear hM haw hps2
    cases ok
    case' true => cases d
    all_goals
      refine calls_of_wpQ Try.func3 rfl ?_
      intro Q hQ
      simp only [Try.ntmps3, List.size_toArray, List.length_cons, List.length_nil, Nat.reduceAdd, Nat.reduceSub, Array.replicate_succ, Array.replicate_zero, List.push_toArray, List.append_toArray, List.nil_append, List.cons_append]
      go_wp2_with fail
      refine hShown.mono ?_
      rintro e w2 ⟨v2, rfl, hM2, hT2, hm2⟩
      have q2 := hid_mk (TwoM.below hT2 hqA hqA.size (Nat.le_refl _) (fun k hk => by simp [Value.ownBlock] at hk))
      have hps3 := hps.to q2.out
      clear hM2 hT2 hm2 hShown
      go_wp2_with fail
      refine (Check_any root n i leaf A _ cap ps _ hps3 (by omega) (by omega)).mono ?_
      rw [hck.out]
      rintro e w3 ⟨rfl, hb3⟩
      have q3 := hid_mk (after (w := w) hb3 q2.out).1
      clear hb3
      go_wp2_with fail
      refine (Leaf_any ⟨#[97]⟩ _ (by decide)).mono ?_
      rw [hlf.out]
      rintro e w4 ⟨rfl, hb4⟩
      have q4 := hid_mk (after (w := w) hb4 q3.out).1
      go_wp2
      refine ends_ret hQ (results_tmp rfl _ _ _) rfl ?_
      exact ⟨ret_bool (by simp), q4.out⟩
theorem LawChecks_walk (s0 : ByteArray) (_hs0 : s0.size ≤ 140737488351232) (a1 : Int) (_lo1 : -9223372036854775808 ≤ a1) (_hi1 : a1 ≤ 9223372036854775807) (a2 : Int) (_lo2 : -9223372036854775808 ≤ a2) (_hi2 : a2 ≤ 9223372036854775807) (s3 : ByteArray) (_hs3 : s3.size ≤ 140737488351232) (a4 : Option Addr) (len4 cap4 : Nat) (ss4 : List ByteArray) {w : World} (i4 : Strs w w.heap.size a4 len4 ss4) (lc4 : len4 ≤ cap4) (hs4 : cap4 * 16 ≤ 140737488351232) (_b4 : ∀ s ∈ ss4, s.size ≤ 140737488351232) :
    Calls Try.prog 3 #[.string s0, .int .i64 a1, .int .i64 a2, .string s3, .slice a4 len4 cap4] w fun e w' => e = .returned (.bool true) ∧ Below w.heap.size w w' := LawChecks_any s0 a1 a2 s3 a4 len4 cap4 ss4 w i4 lc4 hs4
end Go.Proofs.Ytlnncpilgpafdaa
