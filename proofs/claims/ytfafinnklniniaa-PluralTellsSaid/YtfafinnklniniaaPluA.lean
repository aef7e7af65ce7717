/-
  WHAT IS PROVED HERE: what the reference's Category hands back, and that it is what the tables say. Condition: the number is an int64.
-/
import Derived.Test.YtfafinnklniniaaPlu8
import Derived.Test.YtfafinnklniniaaPlu9
namespace Go.Proofs.Ytfafinnklniniaa
open Go.RowKit

def sZero : ByteArray := ⟨#[122, 101, 114, 111]⟩
def sOne : ByteArray := ⟨#[111, 110, 101]⟩
def sTwo : ByteArray := ⟨#[116, 119, 111]⟩
def sFew : ByteArray := ⟨#[102, 101, 119]⟩
def sMany : ByteArray := ⟨#[109, 97, 110, 121]⟩
def slav (one : Bool) (d h : Int) : ByteArray := if one then sOne else if 2 ≤ d ∧ d ≤ 4 ∧ (h < 12 ∨ 14 < h) then sFew else sMany
def rEn (m : Int) : ByteArray := if m = 1 then sOne else other
def rFr (m : Int) : ByteArray := if m < 2 then sOne else other
def rRu (m : Int) : ByteArray := slav (decide (m % 10 = 1 ∧ m % 100 ≠ 11)) (m % 10) (m % 100)
def rPl (m : Int) : ByteArray := slav (decide (m = 1)) (m % 10) (m % 100)
def rCs (m : Int) : ByteArray := if m = 1 then sOne else if 2 ≤ m ∧ m ≤ 4 then sFew else other
def rAr (m : Int) : ByteArray := if m = 0 then sZero else if m = 1 then sOne else if m = 2 then sTwo else if 3 ≤ m % 100 ∧ m % 100 ≤ 10 then sFew else if 11 ≤ m % 100 then sMany else other
def rSl (m : Int) : ByteArray := if m % 100 = 1 then sOne else if m % 100 = 2 then sTwo else if m % 100 = 3 ∨ m % 100 = 4 then sFew else other
def rCy (m : Int) : ByteArray := if m = 0 then sZero else if m = 1 then sOne else if m = 2 then sTwo else if m = 3 then sFew else if m = 6 then sMany else other
def refCat (l : ByteArray) (m : Int) : ByteArray :=
  if l = ⟨#[101, 110]⟩ then rEn m else
  if l = ⟨#[100, 101]⟩ then rEn m else
  if l = ⟨#[102, 114]⟩ then rFr m else
  if l = ⟨#[114, 117]⟩ then rRu m else
  if l = ⟨#[112, 108]⟩ then rPl m else
  if l = ⟨#[99, 115]⟩ then rCs m else
  if l = ⟨#[97, 114]⟩ then rAr m else
  if l = ⟨#[115, 108]⟩ then rSl m else
  if l = ⟨#[99, 121]⟩ then rCy m else
  other
theorem tab_en : tableL (rulesL ⟨#[101, 110]⟩) = [(sOne, [[⟨0, false, [(1, 1)]⟩]])] := by decide +kernel
theorem cat_en (m : Int) (_h0 : 0 ≤ m) : catL m (tableL (rulesL ⟨#[101, 110]⟩)) = rEn m := by
  rw [tab_en]
  simp [catL, ruleOk, rowOk, relOk, spanOk, ruleHolds, rowHolds, relHolds, restOf, inSpan, rEn]
  repeat' split
  all_goals first | rfl | (exfalso; omega)
theorem tab_de : tableL (rulesL ⟨#[100, 101]⟩) = [(sOne, [[⟨0, false, [(1, 1)]⟩]])] := by decide +kernel
theorem cat_de (m : Int) (_h0 : 0 ≤ m) : catL m (tableL (rulesL ⟨#[100, 101]⟩)) = rEn m := by
  rw [tab_de]
  simp [catL, ruleOk, rowOk, relOk, spanOk, ruleHolds, rowHolds, relHolds, restOf, inSpan, rEn]
  repeat' split
  all_goals first | rfl | (exfalso; omega)
theorem tab_fr : tableL (rulesL ⟨#[102, 114]⟩) = [(sOne, [[⟨0, false, [(0, 0), (1, 1)]⟩]])] := by decide +kernel
theorem cat_fr (m : Int) (_h0 : 0 ≤ m) : catL m (tableL (rulesL ⟨#[102, 114]⟩)) = rFr m := by
  rw [tab_fr]
  simp [catL, ruleOk, rowOk, relOk, spanOk, ruleHolds, rowHolds, relHolds, restOf, inSpan, rFr]
  repeat' split
  all_goals first | rfl | (exfalso; omega)
theorem tab_ru : tableL (rulesL ⟨#[114, 117]⟩) = [(sOne, [[⟨10, false, [(1, 1)]⟩, ⟨100, true, [(11, 11)]⟩]]), (sFew, [[⟨10, false, [(2, 4)]⟩, ⟨100, true, [(12, 14)]⟩]]), (sMany, [[⟨10, false, [(0, 0), (5, 9)]⟩], [⟨100, false, [(11, 14)]⟩]])] := by decide +kernel
theorem cat_ru (m : Int) (_h0 : 0 ≤ m) : catL m (tableL (rulesL ⟨#[114, 117]⟩)) = rRu m := by
  rw [tab_ru]
  simp [catL, ruleOk, rowOk, relOk, spanOk, ruleHolds, rowHolds, relHolds, restOf, inSpan, rRu, slav]
  repeat' split
  all_goals first | rfl | (exfalso; omega)
theorem tab_pl : tableL (rulesL ⟨#[112, 108]⟩) = [(sOne, [[⟨0, false, [(1, 1)]⟩]]), (sFew, [[⟨10, false, [(2, 4)]⟩, ⟨100, true, [(12, 14)]⟩]]), (sMany, [[⟨10, false, [(0, 0), (1, 1), (5, 9)]⟩], [⟨100, false, [(12, 14)]⟩]])] := by decide +kernel
theorem cat_pl (m : Int) (_h0 : 0 ≤ m) : catL m (tableL (rulesL ⟨#[112, 108]⟩)) = rPl m := by
  rw [tab_pl]
  simp [catL, ruleOk, rowOk, relOk, spanOk, ruleHolds, rowHolds, relHolds, restOf, inSpan, rPl, slav]
  repeat' split
  all_goals first | rfl | (exfalso; omega)
theorem tab_cs : tableL (rulesL ⟨#[99, 115]⟩) = [(sOne, [[⟨0, false, [(1, 1)]⟩]]), (sFew, [[⟨0, false, [(2, 4)]⟩]])] := by decide +kernel
theorem cat_cs (m : Int) (_h0 : 0 ≤ m) : catL m (tableL (rulesL ⟨#[99, 115]⟩)) = rCs m := by
  rw [tab_cs]
  simp [catL, ruleOk, rowOk, relOk, spanOk, ruleHolds, rowHolds, relHolds, restOf, inSpan, rCs]
  repeat' split
  all_goals first | rfl | (exfalso; omega)
theorem tab_ar : tableL (rulesL ⟨#[97, 114]⟩) = [(sZero, [[⟨0, false, [(0, 0)]⟩]]), (sOne, [[⟨0, false, [(1, 1)]⟩]]), (sTwo, [[⟨0, false, [(2, 2)]⟩]]), (sFew, [[⟨100, false, [(3, 10)]⟩]]), (sMany, [[⟨100, false, [(11, 99)]⟩]])] := by decide +kernel
theorem cat_ar (m : Int) (_h0 : 0 ≤ m) : catL m (tableL (rulesL ⟨#[97, 114]⟩)) = rAr m := by
  rw [tab_ar]
  simp [catL, ruleOk, rowOk, relOk, spanOk, ruleHolds, rowHolds, relHolds, restOf, inSpan, rAr]
  repeat' split
  all_goals first | rfl | (exfalso; omega)
theorem tab_sl : tableL (rulesL ⟨#[115, 108]⟩) = [(sOne, [[⟨100, false, [(1, 1)]⟩]]), (sTwo, [[⟨100, false, [(2, 2)]⟩]]), (sFew, [[⟨100, false, [(3, 3), (4, 4)]⟩]])] := by decide +kernel
theorem cat_sl (m : Int) (_h0 : 0 ≤ m) : catL m (tableL (rulesL ⟨#[115, 108]⟩)) = rSl m := by
  rw [tab_sl]
  simp [catL, ruleOk, rowOk, relOk, spanOk, ruleHolds, rowHolds, relHolds, restOf, inSpan, rSl]
  repeat' split
  all_goals first | rfl | (exfalso; omega)
theorem tab_cy : tableL (rulesL ⟨#[99, 121]⟩) = [(sZero, [[⟨0, false, [(0, 0)]⟩]]), (sOne, [[⟨0, false, [(1, 1)]⟩]]), (sTwo, [[⟨0, false, [(2, 2)]⟩]]), (sFew, [[⟨0, false, [(3, 3)]⟩]]), (sMany, [[⟨0, false, [(6, 6)]⟩]])] := by decide +kernel
theorem cat_cy (m : Int) (_h0 : 0 ≤ m) : catL m (tableL (rulesL ⟨#[99, 121]⟩)) = rCy m := by
  rw [tab_cy]
  simp [catL, ruleOk, rowOk, relOk, spanOk, ruleHolds, rowHolds, relHolds, restOf, inSpan, rCy]
  repeat' split
  all_goals first | rfl | (exfalso; omega)
theorem cat_eq (l : ByteArray) (m : Int) (h0 : 0 ≤ m) : catL m (tableL (rulesL l)) = refCat l m := by
  by_cases hen : l = ⟨#[101, 110]⟩
  · subst hen
    exact cat_en m h0
  by_cases hde : l = ⟨#[100, 101]⟩
  · subst hde
    exact cat_de m h0
  by_cases hfr : l = ⟨#[102, 114]⟩
  · subst hfr
    exact cat_fr m h0
  by_cases hru : l = ⟨#[114, 117]⟩
  · subst hru
    exact cat_ru m h0
  by_cases hpl : l = ⟨#[112, 108]⟩
  · subst hpl
    exact cat_pl m h0
  by_cases hcs : l = ⟨#[99, 115]⟩
  · subst hcs
    exact cat_cs m h0
  by_cases har : l = ⟨#[97, 114]⟩
  · subst har
    exact cat_ar m h0
  by_cases hsl : l = ⟨#[115, 108]⟩
  · subst hsl
    exact cat_sl m h0
  by_cases hcy : l = ⟨#[99, 121]⟩
  · subst hcy
    exact cat_cy m h0
  have hr : rulesL l = [] := by
    unfold rulesL
    simp only [hen, hde, hfr, hru, hpl, hcs, har, hsl, hcy, or_self, if_false]
  rw [hr]
  unfold refCat
  simp only [hen, hde, hfr, hru, hpl, hcs, har, hsl, hcy, if_false]
  rfl
set_option maxHeartbeats 800000 in
theorem slavic_any (one : Bool) (d h : Int) (w : World) : Calls Try.prog 30 #[.bool one, .int .u64 d, .int .u64 h] w fun e w' => e = .returned (.string (slav one d h)) ∧ w = w' := by
  cases one
  · by_cases h1 : 2 ≤ d
    · by_cases h2 : d ≤ 4
      · by_cases h3 : h < 12
        · have hv : slav false d h = sFew := by unfold slav; simp [h1, h2, h3]
          rw [hv]
          clear hv
          refine calls_of_wpQ Try.func30 rfl ?_
          intro Q hQ
          simp only [Try.ntmps30, List.size_toArray, List.length_cons, List.length_nil, Nat.reduceAdd, Nat.reduceSub, Array.replicate_succ, Array.replicate_zero, List.push_toArray, List.append_toArray, List.nil_append, List.cons_append]
          go_wp2
          refine ends_ret hQ (results_tmp rfl _ _ _) rfl ?_
          exact ⟨rfl, rfl⟩
        · by_cases h4 : 14 < h
          · have hv : slav false d h = sFew := by unfold slav; simp [h1, h2, h4]
            rw [hv]
            clear hv
            refine calls_of_wpQ Try.func30 rfl ?_
            intro Q hQ
            simp only [Try.ntmps30, List.size_toArray, List.length_cons, List.length_nil, Nat.reduceAdd, Nat.reduceSub, Array.replicate_succ, Array.replicate_zero, List.push_toArray, List.append_toArray, List.nil_append, List.cons_append]
            go_wp2
            refine ends_ret hQ (results_tmp rfl _ _ _) rfl ?_
            exact ⟨rfl, rfl⟩
          · have hv : slav false d h = sMany := by unfold slav; simp [h3, h4]
            rw [hv]
            clear hv
            refine calls_of_wpQ Try.func30 rfl ?_
            intro Q hQ
            simp only [Try.ntmps30, List.size_toArray, List.length_cons, List.length_nil, Nat.reduceAdd, Nat.reduceSub, Array.replicate_succ, Array.replicate_zero, List.push_toArray, List.append_toArray, List.nil_append, List.cons_append]
            go_wp2
            refine ends_ret hQ (results_tmp rfl _ _ _) rfl ?_
            exact ⟨rfl, rfl⟩
      · have hv : slav false d h = sMany := by unfold slav; simp [h2]
        rw [hv]
        clear hv
        refine calls_of_wpQ Try.func30 rfl ?_
        intro Q hQ
        simp only [Try.ntmps30, List.size_toArray, List.length_cons, List.length_nil, Nat.reduceAdd, Nat.reduceSub, Array.replicate_succ, Array.replicate_zero, List.push_toArray, List.append_toArray, List.nil_append, List.cons_append]
        go_wp2
        refine ends_ret hQ (results_tmp rfl _ _ _) rfl ?_
        exact ⟨rfl, rfl⟩
    · have hv : slav false d h = sMany := by unfold slav; simp [h1]
      rw [hv]
      clear hv
      refine calls_of_wpQ Try.func30 rfl ?_
      intro Q hQ
      simp only [Try.ntmps30, List.size_toArray, List.length_cons, List.length_nil, Nat.reduceAdd, Nat.reduceSub, Array.replicate_succ, Array.replicate_zero, List.push_toArray, List.append_toArray, List.nil_append, List.cons_append]
      go_wp2
      refine ends_ret hQ (results_tmp rfl _ _ _) rfl ?_
      exact ⟨rfl, rfl⟩
  · refine calls_of_wpQ Try.func30 rfl ?_
    intro Q hQ
    simp only [Try.ntmps30, List.size_toArray, List.length_cons, List.length_nil, Nat.reduceAdd, Nat.reduceSub, Array.replicate_succ, Array.replicate_zero, List.push_toArray, List.append_toArray, List.nil_append, List.cons_append]
    go_wp2
    refine ends_ret hQ (results_tmp rfl _ _ _) rfl ?_
    exact ⟨rfl, rfl⟩
set_option maxRecDepth 100000 in
set_option maxHeartbeats 6400000 in
theorem RCat_any (l : ByteArray) (x : Int) (w : World) (hx0 : -9223372036854775808 ≤ x) (hx1 : x ≤ 9223372036854775807) : Calls Try.prog 15 #[.string l, .int .i64 x] w fun e w' => e = .returned (.string (refCat l (amountOf x))) ∧ Below w.heap.size w w' := by
  obtain ⟨m, hm⟩ : ∃ m, amountOf x = m := ⟨_, rfl⟩
  obtain ⟨hm0, hm1⟩ := amount_ge x hx0 hx1
  rw [hm] at hm0 hm1 ⊢
  replace hm := hid_mk hm
  have t10 : m.tmod 10 = m % 10 := Int.tmod_eq_emod_of_nonneg hm0
  have t100 : m.tmod 100 = m % 100 := Int.tmod_eq_emod_of_nonneg hm0
  obtain ⟨d, hd⟩ : ∃ d, m % 10 = d := ⟨_, rfl⟩
  obtain ⟨h, hh⟩ : ∃ h, m % 100 = h := ⟨_, rfl⟩
  have hd0 : 0 ≤ d ∧ d < 10 := by omega
  have hh0 : 0 ≤ h ∧ h < 100 := by omega
  have wd : IntKind.u64.wrap d = d := IntWalk.u64_in _ (by omega)
  have wh : IntKind.u64.wrap h = h := IntWalk.u64_in _ (by omega)
  by_cases hen : l = ⟨#[101, 110]⟩
  · subst hen
    by_cases c0 : m = 1
    · have hv : Hid (refCat ⟨#[101, 110]⟩ m = sOne) := by rw [Hid]; show rEn m = _; unfold rEn; (repeat' split) <;> first | rfl | (exfalso; omega)
      clear t10 t100
      have t10 : m.tmod 10 = d := by rw [← hd]; exact Int.tmod_eq_emod_of_nonneg hm0
      have t100 : m.tmod 100 = h := by rw [← hh]; exact Int.tmod_eq_emod_of_nonneg hm0
      replace hd := hid_mk hd
      replace hh := hid_mk hh
      refine calls_of_wpQ Try.func15 rfl ?_
      intro Q hQ
      simp only [Try.ntmps15, List.size_toArray, List.length_cons, List.length_nil, Nat.reduceAdd, Nat.reduceSub, Array.replicate_succ, Array.replicate_zero, List.push_toArray, List.append_toArray, List.nil_append, List.cons_append]
      go_wp2_with fail
      refine (Amount_any x w hx0 hx1).mono ?_
      rw [hm.out]
      rintro e w1 ⟨rfl, rfl⟩
      go_wp2
      refine ends_ret hQ (results_tmp rfl _ _ _) rfl ?_
      exact ⟨by rw [hv.out]; rfl, by go_grown⟩
    have b0 : (m == 1) = false := by simpa using c0
    have hv : Hid (refCat ⟨#[101, 110]⟩ m = other) := by rw [Hid]; show rEn m = _; unfold rEn; (repeat' split) <;> first | rfl | (exfalso; omega)
    clear t10 t100
    have t10 : m.tmod 10 = d := by rw [← hd]; exact Int.tmod_eq_emod_of_nonneg hm0
    have t100 : m.tmod 100 = h := by rw [← hh]; exact Int.tmod_eq_emod_of_nonneg hm0
    replace hd := hid_mk hd
    replace hh := hid_mk hh
    refine calls_of_wpQ Try.func15 rfl ?_
    intro Q hQ
    simp only [Try.ntmps15, List.size_toArray, List.length_cons, List.length_nil, Nat.reduceAdd, Nat.reduceSub, Array.replicate_succ, Array.replicate_zero, List.push_toArray, List.append_toArray, List.nil_append, List.cons_append]
    go_wp2_with fail
    refine (Amount_any x w hx0 hx1).mono ?_
    rw [hm.out]
    rintro e w1 ⟨rfl, rfl⟩
    go_wp2
    refine ends_ret hQ (results_tmp rfl _ _ _) rfl ?_
    exact ⟨by rw [hv.out]; rfl, by go_grown⟩
  by_cases hde : l = ⟨#[100, 101]⟩
  · subst hde
    by_cases c0 : m = 1
    · have hv : Hid (refCat ⟨#[100, 101]⟩ m = sOne) := by rw [Hid]; show rEn m = _; unfold rEn; (repeat' split) <;> first | rfl | (exfalso; omega)
      clear t10 t100
      have t10 : m.tmod 10 = d := by rw [← hd]; exact Int.tmod_eq_emod_of_nonneg hm0
      have t100 : m.tmod 100 = h := by rw [← hh]; exact Int.tmod_eq_emod_of_nonneg hm0
      replace hd := hid_mk hd
      replace hh := hid_mk hh
      refine calls_of_wpQ Try.func15 rfl ?_
      intro Q hQ
      simp only [Try.ntmps15, List.size_toArray, List.length_cons, List.length_nil, Nat.reduceAdd, Nat.reduceSub, Array.replicate_succ, Array.replicate_zero, List.push_toArray, List.append_toArray, List.nil_append, List.cons_append]
      go_wp2_with fail
      refine (Amount_any x w hx0 hx1).mono ?_
      rw [hm.out]
      rintro e w1 ⟨rfl, rfl⟩
      go_wp2
      refine ends_ret hQ (results_tmp rfl _ _ _) rfl ?_
      exact ⟨by rw [hv.out]; rfl, by go_grown⟩
    have b0 : (m == 1) = false := by simpa using c0
    have hv : Hid (refCat ⟨#[100, 101]⟩ m = other) := by rw [Hid]; show rEn m = _; unfold rEn; (repeat' split) <;> first | rfl | (exfalso; omega)
    clear t10 t100
    have t10 : m.tmod 10 = d := by rw [← hd]; exact Int.tmod_eq_emod_of_nonneg hm0
    have t100 : m.tmod 100 = h := by rw [← hh]; exact Int.tmod_eq_emod_of_nonneg hm0
    replace hd := hid_mk hd
    replace hh := hid_mk hh
    refine calls_of_wpQ Try.func15 rfl ?_
    intro Q hQ
    simp only [Try.ntmps15, List.size_toArray, List.length_cons, List.length_nil, Nat.reduceAdd, Nat.reduceSub, Array.replicate_succ, Array.replicate_zero, List.push_toArray, List.append_toArray, List.nil_append, List.cons_append]
    go_wp2_with fail
    refine (Amount_any x w hx0 hx1).mono ?_
    rw [hm.out]
    rintro e w1 ⟨rfl, rfl⟩
    go_wp2
    refine ends_ret hQ (results_tmp rfl _ _ _) rfl ?_
    exact ⟨by rw [hv.out]; rfl, by go_grown⟩
  by_cases hfr : l = ⟨#[102, 114]⟩
  · subst hfr
    by_cases c0 : m < 2
    · have hv : Hid (refCat ⟨#[102, 114]⟩ m = sOne) := by rw [Hid]; show rFr m = _; unfold rFr; (repeat' split) <;> first | rfl | (exfalso; omega)
      clear t10 t100
      have t10 : m.tmod 10 = d := by rw [← hd]; exact Int.tmod_eq_emod_of_nonneg hm0
      have t100 : m.tmod 100 = h := by rw [← hh]; exact Int.tmod_eq_emod_of_nonneg hm0
      replace hd := hid_mk hd
      replace hh := hid_mk hh
      refine calls_of_wpQ Try.func15 rfl ?_
      intro Q hQ
      simp only [Try.ntmps15, List.size_toArray, List.length_cons, List.length_nil, Nat.reduceAdd, Nat.reduceSub, Array.replicate_succ, Array.replicate_zero, List.push_toArray, List.append_toArray, List.nil_append, List.cons_append]
      go_wp2_with fail
      refine (Amount_any x w hx0 hx1).mono ?_
      rw [hm.out]
      rintro e w1 ⟨rfl, rfl⟩
      go_wp2
      refine ends_ret hQ (results_tmp rfl _ _ _) rfl ?_
      exact ⟨by rw [hv.out]; rfl, by go_grown⟩
    have hv : Hid (refCat ⟨#[102, 114]⟩ m = other) := by rw [Hid]; show rFr m = _; unfold rFr; (repeat' split) <;> first | rfl | (exfalso; omega)
    clear t10 t100
    have t10 : m.tmod 10 = d := by rw [← hd]; exact Int.tmod_eq_emod_of_nonneg hm0
    have t100 : m.tmod 100 = h := by rw [← hh]; exact Int.tmod_eq_emod_of_nonneg hm0
    replace hd := hid_mk hd
    replace hh := hid_mk hh
    refine calls_of_wpQ Try.func15 rfl ?_
    intro Q hQ
    simp only [Try.ntmps15, List.size_toArray, List.length_cons, List.length_nil, Nat.reduceAdd, Nat.reduceSub, Array.replicate_succ, Array.replicate_zero, List.push_toArray, List.append_toArray, List.nil_append, List.cons_append]
    go_wp2_with fail
    refine (Amount_any x w hx0 hx1).mono ?_
    rw [hm.out]
    rintro e w1 ⟨rfl, rfl⟩
    go_wp2
    refine ends_ret hQ (results_tmp rfl _ _ _) rfl ?_
    exact ⟨by rw [hv.out]; rfl, by go_grown⟩
  by_cases hru : l = ⟨#[114, 117]⟩
  · subst hru
    by_cases c0 : d = 1
    · by_cases c1 : h = 11
      · have hv : Hid (refCat ⟨#[114, 117]⟩ m = slav false d h) := by rw [Hid]; show rRu m = _; unfold rRu; rw [hd, hh, show decide (d = 1 ∧ h ≠ 11) = false from by simp; omega]
        clear t10 t100
        have t10 : m.tmod 10 = d := by rw [← hd]; exact Int.tmod_eq_emod_of_nonneg hm0
        have t100 : m.tmod 100 = h := by rw [← hh]; exact Int.tmod_eq_emod_of_nonneg hm0
        replace hd := hid_mk hd
        replace hh := hid_mk hh
        subst c0
        subst c1
        refine calls_of_wpQ Try.func15 rfl ?_
        intro Q hQ
        simp only [Try.ntmps15, List.size_toArray, List.length_cons, List.length_nil, Nat.reduceAdd, Nat.reduceSub, Array.replicate_succ, Array.replicate_zero, List.push_toArray, List.append_toArray, List.nil_append, List.cons_append]
        go_wp2_with fail
        refine (Amount_any x w hx0 hx1).mono ?_
        rw [hm.out]
        rintro e w1 ⟨rfl, rfl⟩
        go_wp2_with fail
        refine (slavic_any false 1 11 _).mono ?_
        rintro e w2 ⟨rfl, rfl⟩
        go_wp2
        refine ends_ret hQ (results_tmp rfl _ _ _) rfl ?_
        exact ⟨by rw [hv.out]; rfl, by go_grown⟩
      · have hv : Hid (refCat ⟨#[114, 117]⟩ m = slav true d h) := by rw [Hid]; show rRu m = _; unfold rRu; rw [hd, hh, show decide (d = 1 ∧ h ≠ 11) = true from by simp; omega]
        clear t10 t100
        have t10 : m.tmod 10 = d := by rw [← hd]; exact Int.tmod_eq_emod_of_nonneg hm0
        have t100 : m.tmod 100 = h := by rw [← hh]; exact Int.tmod_eq_emod_of_nonneg hm0
        replace hd := hid_mk hd
        replace hh := hid_mk hh
        subst c0
        have b1 : (h != 11) = true := by simpa using c1
        refine calls_of_wpQ Try.func15 rfl ?_
        intro Q hQ
        simp only [Try.ntmps15, List.size_toArray, List.length_cons, List.length_nil, Nat.reduceAdd, Nat.reduceSub, Array.replicate_succ, Array.replicate_zero, List.push_toArray, List.append_toArray, List.nil_append, List.cons_append]
        go_wp2_with fail
        refine (Amount_any x w hx0 hx1).mono ?_
        rw [hm.out]
        rintro e w1 ⟨rfl, rfl⟩
        go_wp2_with fail
        refine (slavic_any true 1 h _).mono ?_
        rintro e w2 ⟨rfl, rfl⟩
        go_wp2
        refine ends_ret hQ (results_tmp rfl _ _ _) rfl ?_
        exact ⟨by rw [hv.out]; rfl, by go_grown⟩
    · have hv : Hid (refCat ⟨#[114, 117]⟩ m = slav false d h) := by rw [Hid]; show rRu m = _; unfold rRu; rw [hd, hh, show decide (d = 1 ∧ h ≠ 11) = false from by simp; omega]
      clear t10 t100
      have t10 : m.tmod 10 = d := by rw [← hd]; exact Int.tmod_eq_emod_of_nonneg hm0
      have t100 : m.tmod 100 = h := by rw [← hh]; exact Int.tmod_eq_emod_of_nonneg hm0
      replace hd := hid_mk hd
      replace hh := hid_mk hh
      have b0 : (d == 1) = false := by simpa using c0
      refine calls_of_wpQ Try.func15 rfl ?_
      intro Q hQ
      simp only [Try.ntmps15, List.size_toArray, List.length_cons, List.length_nil, Nat.reduceAdd, Nat.reduceSub, Array.replicate_succ, Array.replicate_zero, List.push_toArray, List.append_toArray, List.nil_append, List.cons_append]
      go_wp2_with fail
      refine (Amount_any x w hx0 hx1).mono ?_
      rw [hm.out]
      rintro e w1 ⟨rfl, rfl⟩
      go_wp2_with fail
      refine (slavic_any false d h _).mono ?_
      rintro e w2 ⟨rfl, rfl⟩
      go_wp2
      refine ends_ret hQ (results_tmp rfl _ _ _) rfl ?_
      exact ⟨by rw [hv.out]; rfl, by go_grown⟩
  by_cases hpl : l = ⟨#[112, 108]⟩
  · subst hpl
    by_cases c0 : m = 1
    · have hv : Hid (refCat ⟨#[112, 108]⟩ m = slav true d h) := by rw [Hid]; show rPl m = _; unfold rPl; rw [hd, hh, decide_eq_true c0]
      clear t10 t100
      have t10 : m.tmod 10 = d := by rw [← hd]; exact Int.tmod_eq_emod_of_nonneg hm0
      have t100 : m.tmod 100 = h := by rw [← hh]; exact Int.tmod_eq_emod_of_nonneg hm0
      replace hd := hid_mk hd
      replace hh := hid_mk hh
      subst c0
      obtain rfl : d = 1 := by rw [← hd.out]; rfl
      obtain rfl : h = 1 := by rw [← hh.out]; rfl
      refine calls_of_wpQ Try.func15 rfl ?_
      intro Q hQ
      simp only [Try.ntmps15, List.size_toArray, List.length_cons, List.length_nil, Nat.reduceAdd, Nat.reduceSub, Array.replicate_succ, Array.replicate_zero, List.push_toArray, List.append_toArray, List.nil_append, List.cons_append]
      go_wp2_with fail
      refine (Amount_any x w hx0 hx1).mono ?_
      rw [hm.out]
      rintro e w1 ⟨rfl, rfl⟩
      go_wp2_with fail
      refine (slavic_any true 1 1 _).mono ?_
      rintro e w2 ⟨rfl, rfl⟩
      go_wp2
      refine ends_ret hQ (results_tmp rfl _ _ _) rfl ?_
      exact ⟨by rw [hv.out]; rfl, by go_grown⟩
    · have hv : Hid (refCat ⟨#[112, 108]⟩ m = slav false d h) := by rw [Hid]; show rPl m = _; unfold rPl; rw [hd, hh, decide_eq_false c0]
      clear t10 t100
      have t10 : m.tmod 10 = d := by rw [← hd]; exact Int.tmod_eq_emod_of_nonneg hm0
      have t100 : m.tmod 100 = h := by rw [← hh]; exact Int.tmod_eq_emod_of_nonneg hm0
      replace hd := hid_mk hd
      replace hh := hid_mk hh
      have b0 : (m == 1) = false := by simpa using c0
      refine calls_of_wpQ Try.func15 rfl ?_
      intro Q hQ
      simp only [Try.ntmps15, List.size_toArray, List.length_cons, List.length_nil, Nat.reduceAdd, Nat.reduceSub, Array.replicate_succ, Array.replicate_zero, List.push_toArray, List.append_toArray, List.nil_append, List.cons_append]
      go_wp2_with fail
      refine (Amount_any x w hx0 hx1).mono ?_
      rw [hm.out]
      rintro e w1 ⟨rfl, rfl⟩
      go_wp2_with fail
      refine (slavic_any false d h _).mono ?_
      rintro e w2 ⟨rfl, rfl⟩
      go_wp2
      refine ends_ret hQ (results_tmp rfl _ _ _) rfl ?_
      exact ⟨by rw [hv.out]; rfl, by go_grown⟩
  by_cases hcs : l = ⟨#[99, 115]⟩
  · subst hcs
    by_cases c0 : m = 1
    · have hv : Hid (refCat ⟨#[99, 115]⟩ m = sOne) := by rw [Hid]; show rCs m = _; unfold rCs; (repeat' split) <;> first | rfl | (exfalso; omega)
      clear t10 t100
      have t10 : m.tmod 10 = d := by rw [← hd]; exact Int.tmod_eq_emod_of_nonneg hm0
      have t100 : m.tmod 100 = h := by rw [← hh]; exact Int.tmod_eq_emod_of_nonneg hm0
      replace hd := hid_mk hd
      replace hh := hid_mk hh
      refine calls_of_wpQ Try.func15 rfl ?_
      intro Q hQ
      simp only [Try.ntmps15, List.size_toArray, List.length_cons, List.length_nil, Nat.reduceAdd, Nat.reduceSub, Array.replicate_succ, Array.replicate_zero, List.push_toArray, List.append_toArray, List.nil_append, List.cons_append]
      go_wp2_with fail
      refine (Amount_any x w hx0 hx1).mono ?_
      rw [hm.out]
      rintro e w1 ⟨rfl, rfl⟩
      go_wp2
      refine ends_ret hQ (results_tmp rfl _ _ _) rfl ?_
      exact ⟨by rw [hv.out]; rfl, by go_grown⟩
    by_cases c1 : m < 2
    · have hv : Hid (refCat ⟨#[99, 115]⟩ m = other) := by rw [Hid]; show rCs m = _; unfold rCs; (repeat' split) <;> first | rfl | (exfalso; omega)
      clear t10 t100
      have t10 : m.tmod 10 = d := by rw [← hd]; exact Int.tmod_eq_emod_of_nonneg hm0
      have t100 : m.tmod 100 = h := by rw [← hh]; exact Int.tmod_eq_emod_of_nonneg hm0
      replace hd := hid_mk hd
      replace hh := hid_mk hh
      refine calls_of_wpQ Try.func15 rfl ?_
      intro Q hQ
      simp only [Try.ntmps15, List.size_toArray, List.length_cons, List.length_nil, Nat.reduceAdd, Nat.reduceSub, Array.replicate_succ, Array.replicate_zero, List.push_toArray, List.append_toArray, List.nil_append, List.cons_append]
      go_wp2_with fail
      refine (Amount_any x w hx0 hx1).mono ?_
      rw [hm.out]
      rintro e w1 ⟨rfl, rfl⟩
      go_wp2
      refine ends_ret hQ (results_tmp rfl _ _ _) rfl ?_
      exact ⟨by rw [hv.out]; rfl, by go_grown⟩
    by_cases c2 : m ≤ 4
    · have hv : Hid (refCat ⟨#[99, 115]⟩ m = sFew) := by rw [Hid]; show rCs m = _; unfold rCs; (repeat' split) <;> first | rfl | (exfalso; omega)
      clear t10 t100
      have t10 : m.tmod 10 = d := by rw [← hd]; exact Int.tmod_eq_emod_of_nonneg hm0
      have t100 : m.tmod 100 = h := by rw [← hh]; exact Int.tmod_eq_emod_of_nonneg hm0
      replace hd := hid_mk hd
      replace hh := hid_mk hh
      refine calls_of_wpQ Try.func15 rfl ?_
      intro Q hQ
      simp only [Try.ntmps15, List.size_toArray, List.length_cons, List.length_nil, Nat.reduceAdd, Nat.reduceSub, Array.replicate_succ, Array.replicate_zero, List.push_toArray, List.append_toArray, List.nil_append, List.cons_append]
      go_wp2_with fail
      refine (Amount_any x w hx0 hx1).mono ?_
      rw [hm.out]
      rintro e w1 ⟨rfl, rfl⟩
      go_wp2
      refine ends_ret hQ (results_tmp rfl _ _ _) rfl ?_
      exact ⟨by rw [hv.out]; rfl, by go_grown⟩
    have b0 : (m == 1) = false := by simpa using c0
    have hv : Hid (refCat ⟨#[99, 115]⟩ m = other) := by rw [Hid]; show rCs m = _; unfold rCs; (repeat' split) <;> first | rfl | (exfalso; omega)
    clear t10 t100
    have t10 : m.tmod 10 = d := by rw [← hd]; exact Int.tmod_eq_emod_of_nonneg hm0
    have t100 : m.tmod 100 = h := by rw [← hh]; exact Int.tmod_eq_emod_of_nonneg hm0
    replace hd := hid_mk hd
    replace hh := hid_mk hh
    refine calls_of_wpQ Try.func15 rfl ?_
    intro Q hQ
    simp only [Try.ntmps15, List.size_toArray, List.length_cons, List.length_nil, Nat.reduceAdd, Nat.reduceSub, Array.replicate_succ, Array.replicate_zero, List.push_toArray, List.append_toArray, List.nil_append, List.cons_append]
    go_wp2_with fail
    refine (Amount_any x w hx0 hx1).mono ?_
    rw [hm.out]
    rintro e w1 ⟨rfl, rfl⟩
    go_wp2
    refine ends_ret hQ (results_tmp rfl _ _ _) rfl ?_
    exact ⟨by rw [hv.out]; rfl, by go_grown⟩
  by_cases har : l = ⟨#[97, 114]⟩
  · subst har
    by_cases c0 : m = 0
    · have hv : Hid (refCat ⟨#[97, 114]⟩ m = sZero) := by rw [Hid]; show rAr m = _; unfold rAr; (repeat' split) <;> first | rfl | (exfalso; omega)
      clear t10 t100
      have t10 : m.tmod 10 = d := by rw [← hd]; exact Int.tmod_eq_emod_of_nonneg hm0
      have t100 : m.tmod 100 = h := by rw [← hh]; exact Int.tmod_eq_emod_of_nonneg hm0
      replace hd := hid_mk hd
      replace hh := hid_mk hh
      refine calls_of_wpQ Try.func15 rfl ?_
      intro Q hQ
      simp only [Try.ntmps15, List.size_toArray, List.length_cons, List.length_nil, Nat.reduceAdd, Nat.reduceSub, Array.replicate_succ, Array.replicate_zero, List.push_toArray, List.append_toArray, List.nil_append, List.cons_append]
      go_wp2_with fail
      refine (Amount_any x w hx0 hx1).mono ?_
      rw [hm.out]
      rintro e w1 ⟨rfl, rfl⟩
      go_wp2
      refine ends_ret hQ (results_tmp rfl _ _ _) rfl ?_
      exact ⟨by rw [hv.out]; rfl, by go_grown⟩
    by_cases c1 : m = 1
    · have hv : Hid (refCat ⟨#[97, 114]⟩ m = sOne) := by rw [Hid]; show rAr m = _; unfold rAr; (repeat' split) <;> first | rfl | (exfalso; omega)
      clear t10 t100
      have t10 : m.tmod 10 = d := by rw [← hd]; exact Int.tmod_eq_emod_of_nonneg hm0
      have t100 : m.tmod 100 = h := by rw [← hh]; exact Int.tmod_eq_emod_of_nonneg hm0
      replace hd := hid_mk hd
      replace hh := hid_mk hh
      refine calls_of_wpQ Try.func15 rfl ?_
      intro Q hQ
      simp only [Try.ntmps15, List.size_toArray, List.length_cons, List.length_nil, Nat.reduceAdd, Nat.reduceSub, Array.replicate_succ, Array.replicate_zero, List.push_toArray, List.append_toArray, List.nil_append, List.cons_append]
      go_wp2_with fail
      refine (Amount_any x w hx0 hx1).mono ?_
      rw [hm.out]
      rintro e w1 ⟨rfl, rfl⟩
      go_wp2
      refine ends_ret hQ (results_tmp rfl _ _ _) rfl ?_
      exact ⟨by rw [hv.out]; rfl, by go_grown⟩
    by_cases c2 : m = 2
    · have hv : Hid (refCat ⟨#[97, 114]⟩ m = sTwo) := by rw [Hid]; show rAr m = _; unfold rAr; (repeat' split) <;> first | rfl | (exfalso; omega)
      clear t10 t100
      have t10 : m.tmod 10 = d := by rw [← hd]; exact Int.tmod_eq_emod_of_nonneg hm0
      have t100 : m.tmod 100 = h := by rw [← hh]; exact Int.tmod_eq_emod_of_nonneg hm0
      replace hd := hid_mk hd
      replace hh := hid_mk hh
      refine calls_of_wpQ Try.func15 rfl ?_
      intro Q hQ
      simp only [Try.ntmps15, List.size_toArray, List.length_cons, List.length_nil, Nat.reduceAdd, Nat.reduceSub, Array.replicate_succ, Array.replicate_zero, List.push_toArray, List.append_toArray, List.nil_append, List.cons_append]
      go_wp2_with fail
      refine (Amount_any x w hx0 hx1).mono ?_
      rw [hm.out]
      rintro e w1 ⟨rfl, rfl⟩
      go_wp2
      refine ends_ret hQ (results_tmp rfl _ _ _) rfl ?_
      exact ⟨by rw [hv.out]; rfl, by go_grown⟩
    by_cases c3 : h < 3
    · have hv : Hid (refCat ⟨#[97, 114]⟩ m = other) := by rw [Hid]; show rAr m = _; unfold rAr; (repeat' split) <;> first | rfl | (exfalso; omega)
      clear t10 t100
      have t10 : m.tmod 10 = d := by rw [← hd]; exact Int.tmod_eq_emod_of_nonneg hm0
      have t100 : m.tmod 100 = h := by rw [← hh]; exact Int.tmod_eq_emod_of_nonneg hm0
      replace hd := hid_mk hd
      replace hh := hid_mk hh
      refine calls_of_wpQ Try.func15 rfl ?_
      intro Q hQ
      simp only [Try.ntmps15, List.size_toArray, List.length_cons, List.length_nil, Nat.reduceAdd, Nat.reduceSub, Array.replicate_succ, Array.replicate_zero, List.push_toArray, List.append_toArray, List.nil_append, List.cons_append]
      go_wp2_with fail
      refine (Amount_any x w hx0 hx1).mono ?_
      rw [hm.out]
      rintro e w1 ⟨rfl, rfl⟩
      go_wp2
      refine ends_ret hQ (results_tmp rfl _ _ _) rfl ?_
      exact ⟨by rw [hv.out]; rfl, by go_grown⟩
    by_cases c4 : h ≤ 10
    · have hv : Hid (refCat ⟨#[97, 114]⟩ m = sFew) := by rw [Hid]; show rAr m = _; unfold rAr; (repeat' split) <;> first | rfl | (exfalso; omega)
      clear t10 t100
      have t10 : m.tmod 10 = d := by rw [← hd]; exact Int.tmod_eq_emod_of_nonneg hm0
      have t100 : m.tmod 100 = h := by rw [← hh]; exact Int.tmod_eq_emod_of_nonneg hm0
      replace hd := hid_mk hd
      replace hh := hid_mk hh
      refine calls_of_wpQ Try.func15 rfl ?_
      intro Q hQ
      simp only [Try.ntmps15, List.size_toArray, List.length_cons, List.length_nil, Nat.reduceAdd, Nat.reduceSub, Array.replicate_succ, Array.replicate_zero, List.push_toArray, List.append_toArray, List.nil_append, List.cons_append]
      go_wp2_with fail
      refine (Amount_any x w hx0 hx1).mono ?_
      rw [hm.out]
      rintro e w1 ⟨rfl, rfl⟩
      go_wp2
      refine ends_ret hQ (results_tmp rfl _ _ _) rfl ?_
      exact ⟨by rw [hv.out]; rfl, by go_grown⟩
    have b0 : (m == 0) = false := by simpa using c0
    have b1 : (m == 1) = false := by simpa using c1
    have b2 : (m == 2) = false := by simpa using c2
    have hv : Hid (refCat ⟨#[97, 114]⟩ m = sMany) := by rw [Hid]; show rAr m = _; unfold rAr; (repeat' split) <;> first | rfl | (exfalso; omega)
    clear t10 t100
    have t10 : m.tmod 10 = d := by rw [← hd]; exact Int.tmod_eq_emod_of_nonneg hm0
    have t100 : m.tmod 100 = h := by rw [← hh]; exact Int.tmod_eq_emod_of_nonneg hm0
    replace hd := hid_mk hd
    replace hh := hid_mk hh
    refine calls_of_wpQ Try.func15 rfl ?_
    intro Q hQ
    simp only [Try.ntmps15, List.size_toArray, List.length_cons, List.length_nil, Nat.reduceAdd, Nat.reduceSub, Array.replicate_succ, Array.replicate_zero, List.push_toArray, List.append_toArray, List.nil_append, List.cons_append]
    go_wp2_with fail
    refine (Amount_any x w hx0 hx1).mono ?_
    rw [hm.out]
    rintro e w1 ⟨rfl, rfl⟩
    go_wp2
    refine ends_ret hQ (results_tmp rfl _ _ _) rfl ?_
    exact ⟨by rw [hv.out]; rfl, by go_grown⟩
  by_cases hsl : l = ⟨#[115, 108]⟩
  · subst hsl
    by_cases c0 : h = 1
    · have hv : Hid (refCat ⟨#[115, 108]⟩ m = sOne) := by rw [Hid]; show rSl m = _; unfold rSl; (repeat' split) <;> first | rfl | (exfalso; omega)
      clear t10 t100
      have t10 : m.tmod 10 = d := by rw [← hd]; exact Int.tmod_eq_emod_of_nonneg hm0
      have t100 : m.tmod 100 = h := by rw [← hh]; exact Int.tmod_eq_emod_of_nonneg hm0
      replace hd := hid_mk hd
      replace hh := hid_mk hh
      refine calls_of_wpQ Try.func15 rfl ?_
      intro Q hQ
      simp only [Try.ntmps15, List.size_toArray, List.length_cons, List.length_nil, Nat.reduceAdd, Nat.reduceSub, Array.replicate_succ, Array.replicate_zero, List.push_toArray, List.append_toArray, List.nil_append, List.cons_append]
      go_wp2_with fail
      refine (Amount_any x w hx0 hx1).mono ?_
      rw [hm.out]
      rintro e w1 ⟨rfl, rfl⟩
      go_wp2
      refine ends_ret hQ (results_tmp rfl _ _ _) rfl ?_
      exact ⟨by rw [hv.out]; rfl, by go_grown⟩
    by_cases c1 : h = 2
    · have hv : Hid (refCat ⟨#[115, 108]⟩ m = sTwo) := by rw [Hid]; show rSl m = _; unfold rSl; (repeat' split) <;> first | rfl | (exfalso; omega)
      clear t10 t100
      have t10 : m.tmod 10 = d := by rw [← hd]; exact Int.tmod_eq_emod_of_nonneg hm0
      have t100 : m.tmod 100 = h := by rw [← hh]; exact Int.tmod_eq_emod_of_nonneg hm0
      replace hd := hid_mk hd
      replace hh := hid_mk hh
      refine calls_of_wpQ Try.func15 rfl ?_
      intro Q hQ
      simp only [Try.ntmps15, List.size_toArray, List.length_cons, List.length_nil, Nat.reduceAdd, Nat.reduceSub, Array.replicate_succ, Array.replicate_zero, List.push_toArray, List.append_toArray, List.nil_append, List.cons_append]
      go_wp2_with fail
      refine (Amount_any x w hx0 hx1).mono ?_
      rw [hm.out]
      rintro e w1 ⟨rfl, rfl⟩
      go_wp2
      refine ends_ret hQ (results_tmp rfl _ _ _) rfl ?_
      exact ⟨by rw [hv.out]; rfl, by go_grown⟩
    by_cases c2 : h = 3
    · have hv : Hid (refCat ⟨#[115, 108]⟩ m = sFew) := by rw [Hid]; show rSl m = _; unfold rSl; (repeat' split) <;> first | rfl | (exfalso; omega)
      clear t10 t100
      have t10 : m.tmod 10 = d := by rw [← hd]; exact Int.tmod_eq_emod_of_nonneg hm0
      have t100 : m.tmod 100 = h := by rw [← hh]; exact Int.tmod_eq_emod_of_nonneg hm0
      replace hd := hid_mk hd
      replace hh := hid_mk hh
      refine calls_of_wpQ Try.func15 rfl ?_
      intro Q hQ
      simp only [Try.ntmps15, List.size_toArray, List.length_cons, List.length_nil, Nat.reduceAdd, Nat.reduceSub, Array.replicate_succ, Array.replicate_zero, List.push_toArray, List.append_toArray, List.nil_append, List.cons_append]
      go_wp2_with fail
      refine (Amount_any x w hx0 hx1).mono ?_
      rw [hm.out]
      rintro e w1 ⟨rfl, rfl⟩
      go_wp2
      refine ends_ret hQ (results_tmp rfl _ _ _) rfl ?_
      exact ⟨by rw [hv.out]; rfl, by go_grown⟩
    by_cases c3 : h = 4
    · have hv : Hid (refCat ⟨#[115, 108]⟩ m = sFew) := by rw [Hid]; show rSl m = _; unfold rSl; (repeat' split) <;> first | rfl | (exfalso; omega)
      clear t10 t100
      have t10 : m.tmod 10 = d := by rw [← hd]; exact Int.tmod_eq_emod_of_nonneg hm0
      have t100 : m.tmod 100 = h := by rw [← hh]; exact Int.tmod_eq_emod_of_nonneg hm0
      replace hd := hid_mk hd
      replace hh := hid_mk hh
      refine calls_of_wpQ Try.func15 rfl ?_
      intro Q hQ
      simp only [Try.ntmps15, List.size_toArray, List.length_cons, List.length_nil, Nat.reduceAdd, Nat.reduceSub, Array.replicate_succ, Array.replicate_zero, List.push_toArray, List.append_toArray, List.nil_append, List.cons_append]
      go_wp2_with fail
      refine (Amount_any x w hx0 hx1).mono ?_
      rw [hm.out]
      rintro e w1 ⟨rfl, rfl⟩
      go_wp2
      refine ends_ret hQ (results_tmp rfl _ _ _) rfl ?_
      exact ⟨by rw [hv.out]; rfl, by go_grown⟩
    have b0 : (h == 1) = false := by simpa using c0
    have b1 : (h == 2) = false := by simpa using c1
    have b2 : (h == 3) = false := by simpa using c2
    have b3 : (h == 4) = false := by simpa using c3
    have hv : Hid (refCat ⟨#[115, 108]⟩ m = other) := by rw [Hid]; show rSl m = _; unfold rSl; (repeat' split) <;> first | rfl | (exfalso; omega)
    clear t10 t100
    have t10 : m.tmod 10 = d := by rw [← hd]; exact Int.tmod_eq_emod_of_nonneg hm0
    have t100 : m.tmod 100 = h := by rw [← hh]; exact Int.tmod_eq_emod_of_nonneg hm0
    replace hd := hid_mk hd
    replace hh := hid_mk hh
    refine calls_of_wpQ Try.func15 rfl ?_
    intro Q hQ
    simp only [Try.ntmps15, List.size_toArray, List.length_cons, List.length_nil, Nat.reduceAdd, Nat.reduceSub, Array.replicate_succ, Array.replicate_zero, List.push_toArray, List.append_toArray, List.nil_append, List.cons_append]
    go_wp2_with fail
    refine (Amount_any x w hx0 hx1).mono ?_
    rw [hm.out]
    rintro e w1 ⟨rfl, rfl⟩
    go_wp2
    refine ends_ret hQ (results_tmp rfl _ _ _) rfl ?_
    exact ⟨by rw [hv.out]; rfl, by go_grown⟩
  by_cases hcy : l = ⟨#[99, 121]⟩
  · subst hcy
    by_cases c0 : m = 0
    · have hv : Hid (refCat ⟨#[99, 121]⟩ m = sZero) := by rw [Hid]; show rCy m = _; unfold rCy; (repeat' split) <;> first | rfl | (exfalso; omega)
      clear t10 t100
      have t10 : m.tmod 10 = d := by rw [← hd]; exact Int.tmod_eq_emod_of_nonneg hm0
      have t100 : m.tmod 100 = h := by rw [← hh]; exact Int.tmod_eq_emod_of_nonneg hm0
      replace hd := hid_mk hd
      replace hh := hid_mk hh
      refine calls_of_wpQ Try.func15 rfl ?_
      intro Q hQ
      simp only [Try.ntmps15, List.size_toArray, List.length_cons, List.length_nil, Nat.reduceAdd, Nat.reduceSub, Array.replicate_succ, Array.replicate_zero, List.push_toArray, List.append_toArray, List.nil_append, List.cons_append]
      go_wp2_with fail
      refine (Amount_any x w hx0 hx1).mono ?_
      rw [hm.out]
      rintro e w1 ⟨rfl, rfl⟩
      go_wp2
      refine ends_ret hQ (results_tmp rfl _ _ _) rfl ?_
      exact ⟨by rw [hv.out]; rfl, by go_grown⟩
    by_cases c1 : m = 1
    · have hv : Hid (refCat ⟨#[99, 121]⟩ m = sOne) := by rw [Hid]; show rCy m = _; unfold rCy; (repeat' split) <;> first | rfl | (exfalso; omega)
      clear t10 t100
      have t10 : m.tmod 10 = d := by rw [← hd]; exact Int.tmod_eq_emod_of_nonneg hm0
      have t100 : m.tmod 100 = h := by rw [← hh]; exact Int.tmod_eq_emod_of_nonneg hm0
      replace hd := hid_mk hd
      replace hh := hid_mk hh
      refine calls_of_wpQ Try.func15 rfl ?_
      intro Q hQ
      simp only [Try.ntmps15, List.size_toArray, List.length_cons, List.length_nil, Nat.reduceAdd, Nat.reduceSub, Array.replicate_succ, Array.replicate_zero, List.push_toArray, List.append_toArray, List.nil_append, List.cons_append]
      go_wp2_with fail
      refine (Amount_any x w hx0 hx1).mono ?_
      rw [hm.out]
      rintro e w1 ⟨rfl, rfl⟩
      go_wp2
      refine ends_ret hQ (results_tmp rfl _ _ _) rfl ?_
      exact ⟨by rw [hv.out]; rfl, by go_grown⟩
    by_cases c2 : m = 2
    · have hv : Hid (refCat ⟨#[99, 121]⟩ m = sTwo) := by rw [Hid]; show rCy m = _; unfold rCy; (repeat' split) <;> first | rfl | (exfalso; omega)
      clear t10 t100
      have t10 : m.tmod 10 = d := by rw [← hd]; exact Int.tmod_eq_emod_of_nonneg hm0
      have t100 : m.tmod 100 = h := by rw [← hh]; exact Int.tmod_eq_emod_of_nonneg hm0
      replace hd := hid_mk hd
      replace hh := hid_mk hh
      refine calls_of_wpQ Try.func15 rfl ?_
      intro Q hQ
      simp only [Try.ntmps15, List.size_toArray, List.length_cons, List.length_nil, Nat.reduceAdd, Nat.reduceSub, Array.replicate_succ, Array.replicate_zero, List.push_toArray, List.append_toArray, List.nil_append, List.cons_append]
      go_wp2_with fail
      refine (Amount_any x w hx0 hx1).mono ?_
      rw [hm.out]
      rintro e w1 ⟨rfl, rfl⟩
      go_wp2
      refine ends_ret hQ (results_tmp rfl _ _ _) rfl ?_
      exact ⟨by rw [hv.out]; rfl, by go_grown⟩
    by_cases c3 : m = 3
    · have hv : Hid (refCat ⟨#[99, 121]⟩ m = sFew) := by rw [Hid]; show rCy m = _; unfold rCy; (repeat' split) <;> first | rfl | (exfalso; omega)
      clear t10 t100
      have t10 : m.tmod 10 = d := by rw [← hd]; exact Int.tmod_eq_emod_of_nonneg hm0
      have t100 : m.tmod 100 = h := by rw [← hh]; exact Int.tmod_eq_emod_of_nonneg hm0
      replace hd := hid_mk hd
      replace hh := hid_mk hh
      refine calls_of_wpQ Try.func15 rfl ?_
      intro Q hQ
      simp only [Try.ntmps15, List.size_toArray, List.length_cons, List.length_nil, Nat.reduceAdd, Nat.reduceSub, Array.replicate_succ, Array.replicate_zero, List.push_toArray, List.append_toArray, List.nil_append, List.cons_append]
      go_wp2_with fail
      refine (Amount_any x w hx0 hx1).mono ?_
      rw [hm.out]
      rintro e w1 ⟨rfl, rfl⟩
      go_wp2
      refine ends_ret hQ (results_tmp rfl _ _ _) rfl ?_
      exact ⟨by rw [hv.out]; rfl, by go_grown⟩
    by_cases c4 : m = 6
    · have hv : Hid (refCat ⟨#[99, 121]⟩ m = sMany) := by rw [Hid]; show rCy m = _; unfold rCy; (repeat' split) <;> first | rfl | (exfalso; omega)
      clear t10 t100
      have t10 : m.tmod 10 = d := by rw [← hd]; exact Int.tmod_eq_emod_of_nonneg hm0
      have t100 : m.tmod 100 = h := by rw [← hh]; exact Int.tmod_eq_emod_of_nonneg hm0
      replace hd := hid_mk hd
      replace hh := hid_mk hh
      refine calls_of_wpQ Try.func15 rfl ?_
      intro Q hQ
      simp only [Try.ntmps15, List.size_toArray, List.length_cons, List.length_nil, Nat.reduceAdd, Nat.reduceSub, Array.replicate_succ, Array.replicate_zero, List.push_toArray, List.append_toArray, List.nil_append, List.cons_append]
      go_wp2_with fail
      refine (Amount_any x w hx0 hx1).mono ?_
      rw [hm.out]
      rintro e w1 ⟨rfl, rfl⟩
      go_wp2
      refine ends_ret hQ (results_tmp rfl _ _ _) rfl ?_
      exact ⟨by rw [hv.out]; rfl, by go_grown⟩
    have b0 : (m == 0) = false := by simpa using c0
    have b1 : (m == 1) = false := by simpa using c1
    have b2 : (m == 2) = false := by simpa using c2
    have b3 : (m == 3) = false := by simpa using c3
    have b4 : (m == 6) = false := by simpa using c4
    have hv : Hid (refCat ⟨#[99, 121]⟩ m = other) := by rw [Hid]; show rCy m = _; unfold rCy; (repeat' split) <;> first | rfl | (exfalso; omega)
    clear t10 t100
    have t10 : m.tmod 10 = d := by rw [← hd]; exact Int.tmod_eq_emod_of_nonneg hm0
    have t100 : m.tmod 100 = h := by rw [← hh]; exact Int.tmod_eq_emod_of_nonneg hm0
    replace hd := hid_mk hd
    replace hh := hid_mk hh
    refine calls_of_wpQ Try.func15 rfl ?_
    intro Q hQ
    simp only [Try.ntmps15, List.size_toArray, List.length_cons, List.length_nil, Nat.reduceAdd, Nat.reduceSub, Array.replicate_succ, Array.replicate_zero, List.push_toArray, List.append_toArray, List.nil_append, List.cons_append]
    go_wp2_with fail
    refine (Amount_any x w hx0 hx1).mono ?_
    rw [hm.out]
    rintro e w1 ⟨rfl, rfl⟩
    go_wp2
    refine ends_ret hQ (results_tmp rfl _ _ _) rfl ?_
    exact ⟨by rw [hv.out]; rfl, by go_grown⟩
  have een := toL_ne hen
  have fen : (l.toList == [101, 110]) = false := by simpa using een
  have ede := toL_ne hde
  have fde : (l.toList == [100, 101]) = false := by simpa using ede
  have efr := toL_ne hfr
  have ffr : (l.toList == [102, 114]) = false := by simpa using efr
  have eru := toL_ne hru
  have fru : (l.toList == [114, 117]) = false := by simpa using eru
  have epl := toL_ne hpl
  have fpl : (l.toList == [112, 108]) = false := by simpa using epl
  have ecs := toL_ne hcs
  have fcs : (l.toList == [99, 115]) = false := by simpa using ecs
  have ear := toL_ne har
  have far : (l.toList == [97, 114]) = false := by simpa using ear
  have esl := toL_ne hsl
  have fsl : (l.toList == [115, 108]) = false := by simpa using esl
  have ecy := toL_ne hcy
  have fcy : (l.toList == [99, 121]) = false := by simpa using ecy
  have hv : Hid (refCat l m = other) := by rw [Hid]; unfold refCat; simp only [hen, hde, hfr, hru, hpl, hcs, har, hsl, hcy, if_false]
  replace hd := hid_mk hd
  replace hh := hid_mk hh
  refine calls_of_wpQ Try.func15 rfl ?_
  intro Q hQ
  simp only [Try.ntmps15, List.size_toArray, List.length_cons, List.length_nil, Nat.reduceAdd, Nat.reduceSub, Array.replicate_succ, Array.replicate_zero, List.push_toArray, List.append_toArray, List.nil_append, List.cons_append]
  go_wp2_with fail
  refine (Amount_any x w hx0 hx1).mono ?_
  rw [hm.out]
  rintro e w1 ⟨rfl, rfl⟩
  go_wp2
  refine ends_ret hQ (results_tmp rfl _ _ _) rfl ?_
  exact ⟨by rw [hv.out]; rfl, by go_grown⟩
end Go.Proofs.Ytfafinnklniniaa
