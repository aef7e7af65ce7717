/-
  WHAT IS PROVED HERE: what the reference's Collide hands back; and the plain law: what is shown is the leaf and its proof, or two unlike texts have one digest. Conditions: slices of at most 2^43 strings.
-/
import Derived.Test.YtlnncpilgpafdaaLaw05c
namespace Go.Proofs.Ytlnncpilgpafdaa
open Go.RowKit

def hit (x : ByteArray) (bs : List ByteArray) : Bool := bs.any fun y => decide (x ≠ y) && decide (dB x = dB y)
/-- were two unlike texts made one digest of? -/
def collB (xs bs : List ByteArray) : Bool := xs.any fun x => hit x bs
theorem collB_of {xs bs : List ByteArray} (h : Clash dB xs bs) : collB xs bs = true := by
  obtain ⟨x, hx, y, hy, hne, hd⟩ := h
  unfold collB hit
  rw [List.any_eq_true]
  refine ⟨x, hx, ?_⟩
  rw [List.any_eq_true]
  exact ⟨y, hy, by simp [hne, hd]⟩
theorem topW_one : ∀ (k : Nat) (l : List ByteArray), l.length ≤ k → 0 < l.length → ∃ t, topW dB l = [t]
  | 0, l, hk, h0 => by omega
  | k + 1, l, hk, h0 => by
    by_cases h : 1 < l.length
    · rw [topW_step dB h]
      have hl := aboveL_len dB l
      exact topW_one k _ (by omega) (by omega)
    · rw [topW_done dB h]
      match l, h0, h with
      | [t], _, _ => exact ⟨t, rfl⟩
      | _ :: _ :: _, _, h => simp at h
theorem topS_top {ls : List ByteArray} (h0 : 0 < ls.length) : topW dB ls = [topS ls] := by
  obtain ⟨t, ht⟩ := topW_one ls.length ls (Nat.le_refl _) h0
  unfold topS
  rw [if_neg (by intro e; rw [e] at h0; simp at h0), ht]; rfl
theorem check_sound {ls : List ByteArray} (h32 : ∀ s ∈ ls, s.size = 32) (hlen : ls.length ≤ 4096) {n i : Int} {leaf : ByteArray} {ps : List ByteArray} (hck : checkB (rootB ls) n i leaf ps = true) :
    (n = ls.length ∧ 0 ≤ i ∧ i < n ∧ ls[i.toNat]? = some leaf ∧ ps = proofW dB ls i.toNat) ∨ collB (madeTs ls) (shownTI n i leaf ps) = true := by
  unfold checkB at hck
  by_cases ha : askB n i leaf ps
  · rw [if_pos ha] at hck
    have hsh : shownTI n i leaf ps = shownTs n.toNat i.toNat leaf ps := by unfold shownTI; rw [if_pos ha]
    obtain ⟨h1, h2, h3, h4, h5, h6⟩ := ha
    have h7 := of_decide_eq_true hck
    unfold shownB at h7
    obtain ⟨t, ht, hd⟩ := Option.map_eq_some_iff.1 h7
    have hts : shownTs n.toNat i.toNat leaf ps = climbTs dB n.toNat i.toNat leaf ps ++ [crownT n.toNat t] := by unfold shownTs; rw [ht]
    rw [hsh, hts]
    unfold rootB at hd
    by_cases he : crownT ls.length (topS ls) = crownT n.toNat t
    · obtain ⟨e1, e2⟩ := crownT_inj (by omega) (by omega) he
      subst e2
      have hnl : n.toNat = ls.length := e1.symm
      have htop := topS_top (ls := ls) (by omega)
      rw [hnl] at ht ⊢
      have hp32 : ∀ s ∈ ps, s.size = 32 := by
        intro s hs
        have := List.any_eq_false.1 h6 s hs
        unfold bad32 at this
        simpa using this
      rcases climb_sound dB dB_32 ls.length ls i.toNat leaf ps _ (Nat.le_refl _) (by omega) h32 h5 hp32 ht htop with ⟨r1, r2⟩ | hcl
      · left
        exact ⟨by omega, h3, h4, r1, r2⟩
      · right
        refine collB_of (hcl.mono dB (fun x hx => ?_) (fun x hx => List.mem_append_left _ hx))
        unfold madeTs
        rw [if_neg (by intro e; rw [e] at e1; simp at e1; omega)]
        exact List.mem_append_left _ hx
    · right
      refine collB_of ⟨crownT ls.length (topS ls), ?_, crownT n.toNat t, by simp, he, hd.symm⟩
      unfold madeTs
      simp
  · rw [if_neg ha] at hck; cases hck
theorem climbTs_size (D : ByteArray → ByteArray) (hD : ∀ s, (D s).size = 32) : ∀ (k m i : Nat) (x : ByteArray) (ps : List ByteArray), m ≤ k → x.size = 32 → (∀ s ∈ ps, s.size = 32) → ∀ s ∈ climbTs D m i x ps, s.size ≤ 100
  | 0, m, i, x, ps, hk, _, _, s, hs => by rw [climbTs_done D (by omega)] at hs; cases hs
  | k + 1, m, i, x, ps, hk, hx, hp, s, hs => by
    by_cases h : 1 < m
    · by_cases hb : sib m i
      · match ps, hp, hs with
        | [], _, hs => rw [climbTs_short D h hb] at hs; cases hs
        | p :: r, hp, hs =>
          rw [climbTs_sib D h hb] at hs
          rcases List.mem_cons.1 hs with rfl | hs
          · have h1 : (⟨#[1]⟩ : ByteArray).size = 1 := rfl
            have h2 : p.size = 32 := hp p (by simp)
            unfold duo pairT
            split <;> rw [ByteArray.size_append, ByteArray.size_append] <;> omega
          · exact climbTs_size D hD k _ _ _ r (by omega) (hD _) (fun s hs => hp s (by simp [hs])) s hs
      · rw [climbTs_lone D h hb] at hs
        exact climbTs_size D hD k _ _ x ps (by omega) hx hp s hs
    · rw [climbTs_done D h] at hs; cases hs
theorem aboveTs_size : ∀ (l : List ByteArray), (∀ s ∈ l, s.size = 32) → ∀ s ∈ aboveTs l, s.size ≤ 100
  | [], _, s, hs => by simp [aboveTs] at hs
  | [_], _, s, hs => by simp [aboveTs] at hs
  | a :: b :: r, h, s, hs => by
    rw [aboveTs] at hs
    rcases List.mem_cons.1 hs with rfl | hs
    · have h1 : (⟨#[1]⟩ : ByteArray).size = 1 := rfl
      have ha := h a (by simp)
      have hb := h b (by simp)
      unfold pairT
      rw [ByteArray.size_append, ByteArray.size_append]; omega
    · exact aboveTs_size r (fun x hx => h x (by simp [hx])) s hs
theorem rootTs_size (D : ByteArray → ByteArray) (hD : ∀ s, (D s).size = 32) : ∀ (k : Nat) (l : List ByteArray), l.length ≤ k → (∀ s ∈ l, s.size = 32) → ∀ s ∈ rootTs D l, s.size ≤ 100
  | 0, l, hk, _, s, hs => by rw [rootTs_done D (by omega)] at hs; cases hs
  | k + 1, l, hk, h32, s, hs => by
    by_cases h : 1 < l.length
    · have hl := aboveL_len D l
      rw [rootTs_step D h] at hs
      rcases List.mem_append.1 hs with hs | hs
      · exact aboveTs_size l h32 s hs
      · exact rootTs_size D hD k _ (by omega) (aboveL_32 D hD l h32) s hs
    · rw [rootTs_done D h] at hs; cases hs
theorem crownT_size {n : Nat} {t : ByteArray} (h : t.size ≤ 40) : (crownT n t).size ≤ 100 := by
  unfold crownT
  rw [ByteArray.size_append]
  have : (⟨#[2, UInt8.ofNat (n / 16777216), UInt8.ofNat (n / 65536), UInt8.ofNat (n / 256), UInt8.ofNat n]⟩ : ByteArray).size = 5 := rfl
  omega
theorem topW_32 : ∀ (k : Nat) (l : List ByteArray), l.length ≤ k → (∀ s ∈ l, s.size = 32) → ∀ s ∈ topW dB l, s.size = 32
  | 0, l, hk, h, s, hs => by rw [topW_done dB (by omega)] at hs; exact h s hs
  | k + 1, l, hk, h, s, hs => by
    by_cases h1 : 1 < l.length
    · have hl := aboveL_len dB l
      rw [topW_step dB h1] at hs
      exact topW_32 k _ (by omega) (aboveL_32 dB dB_32 l h) s hs
    · rw [topW_done dB h1] at hs; exact h s hs
theorem topS_size {ls : List ByteArray} (h32 : ∀ s ∈ ls, s.size = 32) : (topS ls).size ≤ 40 := by
  have key : ∀ l : List ByteArray, (∀ s ∈ l, s.size = 32) → ((topW dB l).headD ByteArray.empty).size ≤ 40 := by
    intro l hl
    cases ht : topW dB l with
    | nil => exact Nat.zero_le _
    | cons a r => have := topW_32 l.length l (Nat.le_refl _) hl a (by rw [ht]; simp); simp; omega
  unfold topS
  split
  · exact key _ (by intro s hs; simp at hs; subst hs; exact zero32_32)
  · exact key _ h32
theorem madeTs_size {ls : List ByteArray} (h32 : ∀ s ∈ ls, s.size = 32) : ∀ s ∈ madeTs ls, s.size ≤ 140737488351232 := by
  intro s hs
  unfold madeTs at hs
  have : s.size ≤ 100 := by
    rcases List.mem_append.1 hs with hs | hs
    · refine rootTs_size dB dB_32 _ _ (Nat.le_refl _) ?_ s hs
      split
      · intro s hs; simp at hs; subst hs; exact zero32_32
      · exact h32
    · simp at hs; subst hs; exact crownT_size (topS_size h32)
  omega
theorem climb_32 : ∀ (k m i : Nat) (x : ByteArray) (ps : List ByteArray) (t : ByteArray), m ≤ k → x.size = 32 → climb dB m i x ps = some t → t.size = 32
  | 0, m, i, x, ps, t, hk, hx, hc => by
    rw [climb_done dB (by omega)] at hc
    split at hc
    · injection hc with hc; rw [← hc]; exact hx
    · cases hc
  | k + 1, m, i, x, ps, t, hk, hx, hc => by
    by_cases h : 1 < m
    · by_cases hb : sib m i
      · match ps, hc with
        | [], hc => rw [climb_short dB h hb] at hc; cases hc
        | p :: r, hc => rw [climb_sib dB h hb] at hc; exact climb_32 k _ _ _ r t (by omega) (dB_32 _) hc
      · rw [climb_lone dB h hb] at hc; exact climb_32 k _ _ x ps t (by omega) hx hc
    · rw [climb_done dB h] at hc
      split at hc
      · injection hc with hc; rw [← hc]; exact hx
      · cases hc
theorem shownTI_size {n i : Int} {leaf : ByteArray} {ps : List ByteArray} : ∀ s ∈ shownTI n i leaf ps, s.size ≤ 140737488351232 := by
  intro s hs
  unfold shownTI at hs
  split at hs
  · rename_i ha
    obtain ⟨_, _, _, _, h5, h6⟩ := ha
    have hp32 : ∀ s ∈ ps, s.size = 32 := by
      intro s hs
      have := List.any_eq_false.1 h6 s hs
      unfold bad32 at this
      simpa using this
    have : s.size ≤ 100 := by
      unfold shownTs at hs
      rcases List.mem_append.1 hs with hs | hs
      · exact climbTs_size dB dB_32 _ _ _ _ _ (Nat.le_refl _) h5 hp32 s hs
      · split at hs
        · rename_i t ht
          simp at hs; subst hs
          exact crownT_size (by rw [climb_32 _ _ _ _ _ t (Nat.le_refl _) h5 ht]; omega)
        · cases hs
    omega
  · cases hs
theorem str_ne (a b : ByteArray) : (a.toList != b.toList) = !decide (a = b) := by rw [bne, str_eq]
set_option maxHeartbeats 3200000 in
theorem Collide_any (A1 : Option Addr) (n1 c1 : Nat) (xs : List ByteArray) (A2 : Option Addr) (n2 c2 : Nat) (bs : List ByteArray) (w : World) {B1 B2 : Nat} (h1 : Strs w B1 A1 n1 xs) (h2 : Strs w B2 A2 n2 bs) (hn1 : n1 ≤ 8796093022208) (hn2 : n2 ≤ 8796093022208) (z1 : ∀ s ∈ xs, s.size ≤ 140737488351232) (z2 : ∀ s ∈ bs, s.size ≤ 140737488351232) :
    Calls Try.prog 21 #[.slice A1 n1 c1, .slice A2 n2 c2] w fun e w' => e = .returned (.bool (collB xs bs)) ∧ Below w.heap.size w w' := by
  obtain ⟨cc, hcc⟩ : ∃ c, collB xs bs = c := ⟨_, rfl⟩
  rw [hcc]
  replace hcc := hid_mk hcc
  replace z1 := hid_mk z1
  replace z2 := hid_mk z2
  refine calls_of_wpQ Try.func21 rfl ?_
  intro Q hQ
  simp only [Try.ntmps21, List.size_toArray, List.length_cons, List.length_nil, Nat.reduceAdd, Nat.reduceSub, Array.replicate_succ, Array.replicate_zero, List.push_toArray, List.append_toArray, List.nil_append, List.cons_append]
  go_wp2
  go_loopw [11] (fun iv wr => ∃ (k : Nat), iv = .int .i64 k ∧ k ≤ n1 ∧ Hid (collB xs bs = collB (xs.drop k) bs) ∧ Hid (Below w.heap.size w wr)) (fun iv _ => n1 - (intOf iv).toNat)
  case atStart => exact ⟨0, rfl, Nat.zero_le _, rfl, hid_mk (Below.refl _ _)⟩
  case round =>
    obtain ⟨k, rfl, hk, hcl, hb⟩ := hrel
    by_cases hlt : k < n1
    · obtain ⟨b0, o0, x, rfl, hbl, hdx, hsx, hcx⟩ := h1.at_ hlt
      have c0 : wr.cell? ⟨b0, o0 + k, none⟩ = some (.string x) := ((bcell hb.out).1 _ _ hbl).trans hcx
      have hblr : b0 < wr.heap.size := Nat.lt_of_lt_of_le hbl hb.out.size
      have hxs := z1.out x (List.mem_of_getElem? hsx)
      obtain ⟨dx, hdxe⟩ : ∃ d, dB x = d := ⟨_, rfl⟩
      replace hdxe := hid_mk hdxe
      replace hsx := hid_mk hsx
      clear hcx
      obtain ⟨wo, rfl⟩ : ∃ wo : World, wo = wr := ⟨_, rfl⟩
      go_wp2
      go_loopw [17] (fun iv wr => ∃ (l : Nat), iv = .int .i64 l ∧ l ≤ n2 ∧ Hid (hit x bs = hit x (bs.drop l)) ∧ Hid (Below w.heap.size w wr)) (fun iv _ => n2 - (intOf iv).toNat)
      case atStart => exact ⟨0, rfl, Nat.zero_le _, rfl, hb⟩
      case round =>
        clear c0 hblr hb
        obtain ⟨l, rfl, hl, hhl, hb⟩ := hrel
        by_cases hlt2 : l < n2
        · obtain ⟨b1, o1, y, rfl, hbl1, hdy, hsy, hcy⟩ := h2.at_ hlt2
          have c1' : wr.cell? ⟨b1, o1 + l, none⟩ = some (.string y) := ((bcell hb.out).1 _ _ hbl1).trans hcy
          have hblr1 : b1 < wr.heap.size := Nat.lt_of_lt_of_le hbl1 hb.out.size
          have hys := z2.out y (List.mem_of_getElem? hsy)
          have hne := str_ne x y
          replace hsy := hid_mk hsy
          clear hcy
          by_cases hxy : x = y
          · have hne' : (x.toList != y.toList) = false := by rw [hne]; simp [hxy]
            have hqq : (x.toList == y.toList) = true := by rw [str_eq]; simp [hxy]
            have hqp : x.toList = y.toList := by rw [hxy]
            have hh2 : Hid (hit x bs = hit x (bs.drop (l + 1))) := by
              rw [Hid, hhl.out, hdy.out]
              unfold hit
              rw [List.any_cons]
              simp [hxy]
            clear hne
            replace hxy := hid_mk hxy
            go_wp2
            go_roundw
            case rel => exact ⟨l + 1, by go_num, by omega, hh2, hb⟩
            case measure => simp [intOf]; omega
          · have hne' : (x.toList != y.toList) = true := by rw [hne]; simp [hxy]
            have hqq : (x.toList == y.toList) = false := by rw [str_eq]; simp [hxy]
            have hqp : ¬ x.toList = y.toList := fun e => hxy (by have h := str_eq x y; rw [e] at h; simpa using h.symm)
            obtain ⟨dy, hdye⟩ : ∃ d, dB y = d := ⟨_, rfl⟩
            have heq := str_eq dx dy
            clear hne
            by_cases hdd : dx = dy
            · have heq' : (dx.toList == dy.toList) = true := by rw [heq]; simp [hdd]
              have hct : Hid (cc = true) := by
                rw [Hid, ← hcc.out, hcl.out, hdx.out]
                unfold collB
                rw [List.any_cons]
                have : hit x bs = true := by
                  rw [hhl.out, hdy.out]
                  unfold hit
                  rw [List.any_cons]
                  simp [hxy, hdxe.out, hdye, hdd]
                rw [this]; rfl
              replace hdye := hid_mk hdye
              replace hxy := hid_mk hxy
              replace hdd := hid_mk hdd
              clear heq
              go_wp2_with fail
              refine (ROf_any x _ hxs).mono ?_
              rw [show (⟨(digL x.data.toList).toArray⟩ : ByteArray) = dx from hdxe.out]
              rintro e w2 ⟨rfl, hb2⟩
              have q2 := hid_mk (after (w := w) hb2 hb.out).1
              clear hb2
              go_wp2_with fail
              refine (ROf_any y _ hys).mono ?_
              rw [show (⟨(digL y.data.toList).toArray⟩ : ByteArray) = dy from hdye.out]
              rintro e w3 ⟨rfl, hb3⟩
              have q3 := hid_mk (after (w := w) hb3 q2.out).1
              clear hb3
              go_wp2
              refine ends_ret hQ (results_tmp rfl _ _ _) rfl ?_
              exact ⟨ret_bool hct.out.symm, q3.out⟩
            · have heq' : (dx.toList == dy.toList) = false := by rw [heq]; simp [hdd]
              have hh2 : Hid (hit x bs = hit x (bs.drop (l + 1))) := by
                rw [Hid, hhl.out, hdy.out]
                unfold hit
                rw [List.any_cons]
                simp [hdxe.out, hdye, hdd]
              replace hdye := hid_mk hdye
              replace hxy := hid_mk hxy
              replace hdd := hid_mk hdd
              clear heq
              go_wp2_with fail
              refine (ROf_any x _ hxs).mono ?_
              rw [show (⟨(digL x.data.toList).toArray⟩ : ByteArray) = dx from hdxe.out]
              rintro e w2 ⟨rfl, hb2⟩
              have q2 := hid_mk (after (w := w) hb2 hb.out).1
              clear hb2
              go_wp2_with fail
              refine (ROf_any y _ hys).mono ?_
              rw [show (⟨(digL y.data.toList).toArray⟩ : ByteArray) = dy from hdye.out]
              rintro e w3 ⟨rfl, hb3⟩
              have q3 := hid_mk (after (w := w) hb3 q2.out).1
              clear hb3
              go_wp2
              go_roundw
              case rel => exact ⟨l + 1, by go_num, by omega, hh2, q3⟩
              case measure => simp [intOf]; omega
        · have hno : hit x bs = false := by rw [hhl.out, h2.end_ hl hlt2]; rfl
          have hcl2 : Hid (collB xs bs = collB (xs.drop (k + 1)) bs) := by
            rw [Hid, hcl.out, hdx.out]
            unfold collB
            rw [List.any_cons, hno, Bool.false_or]
          replace hno := hid_mk hno
          go_wp2
          go_roundw
          case rel => exact ⟨k + 1, by go_num, by omega, hcl2, hb⟩
          case measure => simp [intOf]; omega
    · have hcf : Hid (cc = false) := by rw [Hid, ← hcc.out, hcl.out, h1.end_ hk hlt]; rfl
      go_wp2
      refine ends_ret hQ (results_tmp rfl _ _ _) rfl ?_
      exact ⟨ret_bool hcf.out.symm, hb.out⟩
end Go.Proofs.Ytlnncpilgpafdaa
