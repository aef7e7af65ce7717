/-
  WHAT IS PROVED HERE: stores as data (items of two texts and a number behind a place), what store.Right and the reference's Right hand back. Condition: the items' slice is of at most 2^43 elements.
-/
import Derived.Test.YtngaeencnklbdaaStr
namespace Go.Proofs.Ytngaeencnklbdaa
open Go.RowKit

structure Itm where
  k : ByteArray
  b : ByteArray
  r : Int
def itmCells (i : Itm) : List Value := [.string i.k, .string i.b, .int .i64 i.r]
def itmV (i : Itm) : Value := .agg #[.string i.k, .string i.b, .int .i64 i.r]
def itmsL (is : List Itm) : List Value := is.flatMap itmCells
def Itms (w : World) (B : Nat) (A : Option Addr) (n : Nat) (is : List Itm) : Prop := Reads w B 35 3 A n (itmsL is)
theorem itmsL_len : ∀ is : List Itm, (itmsL is).length = is.length * 3
  | [] => rfl
  | r :: rs => by
    have := itmsL_len rs
    unfold itmsL at *
    simp only [List.flatMap_cons, List.length_append, List.length_cons, this, itmCells, List.length_nil]
    omega
theorem itmsL_at : ∀ (is : List Itm) (k : Nat) (r : Itm), is[k]? = some r → (itmsL is)[k * 3]? = some (.string r.k) ∧ (itmsL is)[k * 3 + 1]? = some (.string r.b) ∧ (itmsL is)[k * 3 + 2]? = some (.int .i64 r.r)
  | r :: rs, 0, r', h => by
    simp only [List.getElem?_cons_zero, Option.some.injEq] at h
    subst h
    simp [itmsL, itmCells]
  | r :: rs, k + 1, r', h => by
    have ih := itmsL_at rs k r' (by simpa using h)
    have e : ∀ j, (itmsL (r :: rs))[j + 3]? = (itmsL rs)[j]? := by
      intro j
      simp [itmsL, itmCells]
    rw [show (k + 1) * 3 = k * 3 + 3 from by omega, show k * 3 + 3 + 1 = k * 3 + 1 + 3 from by omega, show k * 3 + 3 + 2 = k * 3 + 2 + 3 from by omega, e, e, e]
    exact ih
section
variable {w w' : World} {B n : Nat} {A : Option Addr} {is : List Itm}
theorem Itms.len (h : Itms w B A n is) : is.length = n := by
  have := h.1
  rw [itmsL_len] at this
  omega
theorem Itms.at_ {k : Nat} (h : Itms w B A n is) (hk : k < n) :
    ∃ b o r, A = some ⟨b, o, none⟩ ∧ b < w.heap.size ∧ is[k]? = some r ∧ w.cell? ⟨b, o + k * 3, none⟩ = some (.string r.k) ∧ w.cell? ⟨b, o + k * 3 + 1, none⟩ = some (.string r.b) ∧ w.cell? ⟨b, o + k * 3 + 2, none⟩ = some (.int .i64 r.r) := by
  obtain ⟨b, o, e, hb, _, hc⟩ := h.2 (by omega)
  have hl : k < is.length := by have := h.len; omega
  obtain ⟨c0, c1, c2⟩ := itmsL_at is k is[k] (List.getElem?_eq_getElem hl)
  exact ⟨b, o, is[k], e, hb, List.getElem?_eq_getElem hl, hc _ _ c0, hc _ _ c1, hc _ _ c2⟩
theorem Itms.to (h : Itms w B A n is) (hb : Below w.heap.size w w') : Itms w' B A n is := Reads.to h hb
theorem Itms.top (h : Itms w B A n is) : Itms w w.heap.size A n is := ⟨h.1, fun hn => by obtain ⟨b, o, e1, e2, _, e3⟩ := h.2 hn; exact ⟨b, o, e1, e2, .inl e2, e3⟩⟩
end
def sL (a b : ByteArray) : Bool := Op.bytesLess a.toList b.toList
theorem bl_irr : ∀ a : List UInt8, Op.bytesLess a a = false
  | [] => rfl
  | x :: a => by simp [Op.bytesLess, bl_irr a]
theorem bl_tri : ∀ a b : List UInt8, Op.bytesLess a b = false → Op.bytesLess b a = true ∨ b = a
  | [], [], _ => .inr rfl
  | [], _ :: _, h => by simp [Op.bytesLess] at h
  | _ :: _, [], _ => .inl rfl
  | x :: a, y :: b, h => by
    simp only [Op.bytesLess, Bool.or_eq_false_iff, Bool.and_eq_false_iff, decide_eq_false_iff_not, beq_eq_false_iff_ne] at h
    rcases Nat.lt_trichotomy x.toNat y.toNat with h1 | h1 | h1
    · exact absurd (UInt8.lt_iff_toNat_lt.2 h1) h.1
    · obtain rfl := UInt8.toNat_inj.1 h1
      rcases h.2 with h2 | h2
      · exact absurd rfl h2
      · rcases bl_tri a b h2 with h3 | h3
        · left; simp [Op.bytesLess, h3]
        · right; rw [h3]
    · left
      simp [Op.bytesLess, UInt8.lt_iff_toNat_lt, h1]
theorem bl_asym : ∀ a b : List UInt8, Op.bytesLess a b = true → Op.bytesLess b a = false
  | [], [], h => by simp [Op.bytesLess] at h
  | [], _ :: _, _ => rfl
  | _ :: _, [], h => by simp [Op.bytesLess] at h
  | x :: a, y :: b, h => by
    simp only [Op.bytesLess, Bool.or_eq_true, Bool.and_eq_true, decide_eq_true_eq, beq_iff_eq] at h
    simp only [Op.bytesLess, Bool.or_eq_false_iff, Bool.and_eq_false_iff, decide_eq_false_iff_not, beq_eq_false_iff_ne]
    rcases h with h | ⟨rfl, h⟩
    · have h1 := UInt8.lt_iff_toNat_lt.1 h
      refine ⟨fun h2 => ?_, .inl fun e => ?_⟩
      · have := UInt8.lt_iff_toNat_lt.1 h2; omega
      · rw [e] at h1; omega
    · refine ⟨fun h2 => ?_, .inr (bl_asym a b h)⟩
      have := UInt8.lt_iff_toNat_lt.1 h2; omega
theorem bl_trans : ∀ a b c : List UInt8, Op.bytesLess a b = true → Op.bytesLess b c = true → Op.bytesLess a c = true
  | _, [], _, h, _ => by cases ‹List UInt8› <;> simp [Op.bytesLess] at h
  | _, _ :: _, [], _, h => by simp [Op.bytesLess] at h
  | [], _ :: _, _ :: _, _, _ => rfl
  | x :: a, y :: b, z :: c, h, k => by
    simp only [Op.bytesLess, Bool.or_eq_true, Bool.and_eq_true, decide_eq_true_eq, beq_iff_eq] at h k ⊢
    rcases h with h | ⟨rfl, h⟩
    · rcases k with k | ⟨rfl, k⟩
      · left
        have h1 := UInt8.lt_iff_toNat_lt.1 h
        have h2 := UInt8.lt_iff_toNat_lt.1 k
        exact UInt8.lt_iff_toNat_lt.2 (by omega)
      · exact .inl h
    · rcases k with k | ⟨rfl, k⟩
      · exact .inl k
      · exact .inr ⟨rfl, bl_trans a b c h k⟩
theorem sL_irr (a : ByteArray) : sL a a = false := bl_irr _
theorem toList_inj {a b : ByteArray} (h : a.toList = b.toList) : a = b := by
  have := str_eq a b
  rw [h] at this
  simpa using this.symm
theorem sL_tri {a b : ByteArray} (h : sL a b = false) : sL b a = true ∨ b = a := (bl_tri _ _ h).imp id toList_inj
theorem sL_asym {a b : ByteArray} (h : sL a b = true) : sL b a = false := bl_asym _ _ h
theorem sL_trans {a b c : ByteArray} (h : sL a b = true) (k : sL b c = true) : sL a c = true := bl_trans _ _ _ h k
theorem sL_ne {a b : ByteArray} (h : sL a b = true) : a ≠ b := by rintro rfl; rw [sL_irr] at h; cases h

def itmOk (i : Itm) : Bool := decide (i.k.size = 32) && decide (1 ≤ i.b.size) && decide (i.b.size ≤ 512) && decide (0 ≤ i.r) && decide (i.r ≤ 1073741824)
/-- may these items follow a key? -/
def okItms : Option ByteArray → List Itm → Bool
  | _, [] => true
  | p, i :: is => itmOk i && (match p with | none => true | some q => sL q i.k) && okItms (some i.k) is
theorem okItms_cons (p : Option ByteArray) (i : Itm) (is : List Itm) : okItms p (i :: is) = (itmOk i && (match p with | none => true | some q => sL q i.k) && okItms (some i.k) is) := rfl
def rightI (is : List Itm) : Bool := decide (is.length ≤ 4096) && okItms none is
def prevK (is : List Itm) (k : Nat) : Option ByteArray := if k = 0 then none else (is[k - 1]?).map (·.k)
theorem okItms_step {is : List Itm} {k : Nat} {i : Itm} (h : is[k]? = some i) : okItms (prevK is k) (is.drop k) = (itmOk i && (match prevK is k with | none => true | some q => sL q i.k) && okItms (prevK is (k + 1)) (is.drop (k + 1))) := by
  have hl : k < is.length := by
    rcases Nat.lt_or_ge k is.length with h1 | h1
    · exact h1
    · rw [List.getElem?_eq_none h1] at h; cases h
  rw [List.drop_eq_getElem_cons hl]
  rw [List.getElem?_eq_getElem hl] at h
  injection h with h
  rw [h, okItms_cons]
  congr 2
  unfold prevK
  rw [if_neg (by omega), Nat.add_sub_cancel, List.getElem?_eq_getElem hl, h]
  rfl
theorem ok_of {K Bd : ByteArray} {r : Int} (h1 : K.size = 32) (h2 : ¬ Bd.size = 0) (h3 : ¬ 512 < Bd.size) (h4 : ¬ r < 0) (h5 : ¬ 1073741824 < r) : itmOk ⟨K, Bd, r⟩ = true := by
  unfold itmOk
  simp only [Bool.and_eq_true, decide_eq_true_eq]
  omega
theorem bad_of {K Bd : ByteArray} {r : Int} (h : ¬ K.size = 32 ∨ Bd.size = 0 ∨ 512 < Bd.size ∨ r < 0 ∨ 1073741824 < r) : itmOk ⟨K, Bd, r⟩ = false := by
  rw [← Bool.not_eq_true]
  unfold itmOk
  simp only [Bool.and_eq_true, decide_eq_true_eq]
  omega
theorem str_nil (b : ByteArray) : (b.toList == ByteArray.toList ⟨#[]⟩) = decide (b.size = 0) := by
  rw [str_eq]
  by_cases h : b.size = 0
  · rw [decide_eq_true h, decide_eq_true]
    have : b.data.size = 0 := h
    cases b with | mk d => simp at this; subst this; rfl
  · rw [decide_eq_false h, decide_eq_false]
    rintro rfl
    exact h rfl
theorem toList_nil : ByteArray.toList ⟨#[]⟩ = [] := by rw [Lib.toList_data]
theorem itm_eta (i : Itm) : i = ⟨i.k, i.b, i.r⟩ := rfl
set_option maxHeartbeats 6400000 in
theorem Right_any (is : List Itm) (A : Option Addr) (n cap : Nat) (w : World) {B : Nat} (hm : n ≤ 8796093022208) (h0 : Itms w B A n is) :
    Calls Try.prog 14 #[.agg #[.slice A n cap]] w fun e w' => e = .returned (.bool (rightI is)) ∧ Below w.heap.size w w' := by
  have hlen := h0.len
  obtain ⟨R, hR⟩ : ∃ R, rightI is = R := ⟨_, rfl⟩
  rw [hR]
  have hb0 : Hid (Below w.heap.size w (w.alloc (.cells #[.slice A n cap] 24))) := (Below.refl _ w).alloc (Nat.le_refl _) _
  have hB0 : Hid (Blk (w.alloc (.cells #[.slice A n cap] 24)) w.heap.size 24 #[.slice A n cap]) := Blk.new w 24 #[.slice A n cap]
  have h := hid_mk h0.top
  by_cases hbig : 4096 < n
  · have hRf : R = false := by rw [← hR]; unfold rightI; rw [decide_eq_false (by omega)]; rfl
    subst hRf
    replace hR := hid_mk hR
    replace hlen := hid_mk hlen
    refine calls_of_wpQ Try.func14 rfl ?_
    intro Q hQ
    simp only [Try.ntmps14, List.size_toArray, List.length_cons, List.length_nil, Nat.reduceAdd, Nat.reduceSub, Array.replicate_succ, Array.replicate_zero, List.push_toArray, List.append_toArray, List.nil_append, List.cons_append]
    go_wp2
    refine ends_ret hQ (results_tmp rfl _ _ _) rfl ?_
    exact ⟨rfl, hb0.out⟩
  · have hRo : Hid (R = okItms (prevK is 0) (is.drop 0)) := by rw [Hid, ← hR]; unfold rightI; rw [decide_eq_true (by omega)]; rfl
    replace hR := hid_mk hR
    replace hlen := hid_mk hlen
    clear h0
    refine calls_of_wpQ Try.func14 rfl ?_
    intro Q hQ
    simp only [Try.ntmps14, List.size_toArray, List.length_cons, List.length_nil, Nat.reduceAdd, Nat.reduceSub, Array.replicate_succ, Array.replicate_zero, List.push_toArray, List.append_toArray, List.nil_append, List.cons_append]
    go_wp2
    go_loopw [12] (fun iv wr => ∃ (k : Nat), iv = .int .i64 k ∧ k ≤ n ∧ Hid (R = okItms (prevK is k) (is.drop k)) ∧ Hid (Below w.heap.size w wr) ∧ Hid (Blk wr w.heap.size 24 #[.slice A n cap])) (fun iv _ => n - (intOf iv).toNat)
    case atStart => exact ⟨0, rfl, Nat.zero_le _, hRo, hb0, hB0⟩
    case round =>
      clear hRo hb0 hB0
      obtain ⟨k, rfl, hk, hRk, hb, hB⟩ := hrel
      by_cases hlt : k < n
      · obtain ⟨b, o, i, rfl, hbl, hik, c0, c1, c2⟩ := (h.out.to hb.out).at_ hlt
        have hst := okItms_step hik
        obtain ⟨K, Bd, rf⟩ := i
        dsimp only at c0 c1 c2 hst
        have hb2 : Hid (Below w.heap.size w (wr.alloc (.cells #[.string K, .string Bd, .int .i64 rf] 35))) := hb.out.alloc hb.out.size _
        have hB2 : Hid (Blk (wr.alloc (.cells #[.string K, .string Bd, .int .i64 rf] 35)) w.heap.size 24 #[.slice (some ⟨b, o, none⟩) n cap]) := hB.out.alloc _
        have hN2 : Hid (Blk (wr.alloc (.cells #[.string K, .string Bd, .int .i64 rf] 35)) wr.heap.size 35 #[.string K, .string Bd, .int .i64 rf]) := Blk.new wr 35 #[.string K, .string Bd, .int .i64 rf]
        have f0 : (wr.alloc (.cells #[.string K, .string Bd, .int .i64 rf] 35)).cell? ⟨wr.heap.size, 0, none⟩ = some (.string K) := hN2.out.cell 0
        have f1 : (wr.alloc (.cells #[.string K, .string Bd, .int .i64 rf] 35)).cell? ⟨wr.heap.size, 1, none⟩ = some (.string Bd) := hN2.out.cell 1
        have f2 : (wr.alloc (.cells #[.string K, .string Bd, .int .i64 rf] 35)).cell? ⟨wr.heap.size, 2, none⟩ = some (.int .i64 rf) := hN2.out.cell 2
        have f3 : (wr.alloc (.cells #[.string K, .string Bd, .int .i64 rf] 35)).cell? ⟨w.heap.size, 0, none⟩ = some (.slice (some ⟨b, o, none⟩) n cap) := hB2.out.cell 0
        replace hik := hid_mk hik
        have k0 : (0 : Int) ≤ k := by omega
        have k1 : (k : Int) < n := by omega
        by_cases e1 : K.size = 32
        case neg =>
          have hRf : Hid (R = false) := by rw [Hid, hRk.out, hst, bad_of (by omega)]; rfl
          have x1 : ((K.size : Int) != 32) = true := by simp; omega
          replace hst := hid_mk hst
          go_wp2_with fail
          go_quiet (fail)
          go_wp2
          refine ends_ret hQ (results_tmp rfl _ _ _) rfl ?_
          exact ⟨by rw [hRf.out]; rfl, below_drewN hb2.out _⟩
        have x1 : ((K.size : Int) != 32) = false := by simp; omega
        have s2 := str_nil Bd
        have s2' := s2
        rw [toList_nil] at s2'
        by_cases e2 : Bd.size = 0
        case pos =>
          have hRf : Hid (R = false) := by rw [Hid, hRk.out, hst, bad_of (by omega)]; rfl
          rw [decide_eq_true e2] at s2 s2'
          replace hst := hid_mk hst
          go_wp2_with fail
          go_quiet (fail)
          go_wp2
          refine ends_ret hQ (results_tmp rfl _ _ _) rfl ?_
          exact ⟨by rw [hRf.out]; rfl, below_drewN hb2.out _⟩
        rw [decide_eq_false e2] at s2 s2'
        have e2' : 0 < Bd.size := by omega
        by_cases e3 : 512 < Bd.size
        case pos =>
          have x3 : decide ((512 : Int) < (Bd.size : Int)) = true := decide_eq_true (by omega)
          have hRf : Hid (R = false) := by rw [Hid, hRk.out, hst, bad_of (by omega)]; rfl
          replace hst := hid_mk hst
          go_wp2_with fail
          go_quiet (fail)
          go_wp2
          refine ends_ret hQ (results_tmp rfl _ _ _) rfl ?_
          exact ⟨by rw [hRf.out]; rfl, below_drewN hb2.out _⟩
        have x3 : decide ((512 : Int) < (Bd.size : Int)) = false := decide_eq_false (by omega)
        by_cases e4 : rf < 0
        case pos =>
          have x4 : decide (rf < 0) = true := decide_eq_true (by omega)
          have hRf : Hid (R = false) := by rw [Hid, hRk.out, hst, bad_of (by omega)]; rfl
          replace hst := hid_mk hst
          go_wp2_with fail
          go_quiet (fail)
          go_wp2
          refine ends_ret hQ (results_tmp rfl _ _ _) rfl ?_
          exact ⟨by rw [hRf.out]; rfl, below_drewN hb2.out _⟩
        have x4 : decide (rf < 0) = false := decide_eq_false (by omega)
        by_cases e5 : 1073741824 < rf
        case pos =>
          have x5 : decide (1073741824 < rf) = true := decide_eq_true (by omega)
          have hRf : Hid (R = false) := by rw [Hid, hRk.out, hst, bad_of (by omega)]; rfl
          replace hst := hid_mk hst
          go_wp2_with fail
          go_quiet (fail)
          go_wp2
          refine ends_ret hQ (results_tmp rfl _ _ _) rfl ?_
          exact ⟨by rw [hRf.out]; rfl, below_drewN hb2.out _⟩
        rw [ok_of e1 e2 e3 e4 e5, Bool.true_and] at hst
        have x5 : decide (1073741824 < rf) = false := decide_eq_false (by omega)
        rcases Nat.eq_zero_or_pos k with hk0 | hk0
        · have hpv : prevK is k = none := by rw [hk0]; rfl
          rw [hpv] at hst
          have hRn : Hid (R = okItms (prevK is (k + 1)) (is.drop (k + 1))) := by rw [Hid, hRk.out, hpv, hst]; rfl
          have x6 : decide ((0 : Int) < (k : Int)) = false := decide_eq_false (by omega)
          have x7 : decide (0 < k) = false := decide_eq_false (by omega)
          replace hst := hid_mk hst
          replace hpv := hid_mk hpv
          replace hk0 := hid_mk hk0
          go_wp2_with fail
          go_quiet (fail)
          go_wp2
          go_roundw
          case rel => exact ⟨k + 1, by go_num, by omega, hRn, hid_mk (below_drewN hb2.out _), hB2⟩
          case measure => simp [intOf]; omega
        · obtain ⟨j, hkj⟩ : ∃ j, k - 1 = j := ⟨_, rfl⟩
          obtain ⟨b', o', i', hA', hbl', hij, d0, _, _⟩ := (h.out.to hb.out).at_ (show j < n by omega)
          have hbo : b = b' ∧ o = o' := by injection hA' with e; injection e with e1 e2; exact ⟨e1, e2⟩
          obtain ⟨rfl, rfl⟩ := hbo
          obtain ⟨Kp, hKp⟩ : ∃ K, i'.k = K := ⟨_, rfl⟩
          rw [hKp] at d0
          have hpv : prevK is k = some Kp := by
            unfold prevK
            rw [if_neg (by omega), hkj, hij, Option.map_some, hKp]
          rw [hpv] at hst
          change okItms (some Kp) (is.drop k) = (sL Kp K && okItms (prevK is (k + 1)) (is.drop (k + 1))) at hst
          have j1 : (k : Int) - 1 = (j : Int) := by omega
          have j2 : (0 : Int) ≤ (j : Int) := by omega
          have j3 : (j : Int) < (n : Int) := by omega
          have j5 : IntKind.i64.wrap ((k : Int) - 1) = (j : Int) := by rw [j1]; exact IntWalk.i64_in _ (by omega)
          have j6 : IntKind.i64.wrap (j : Int) = (j : Int) := IntWalk.i64_in _ (by omega)
          have x6 : decide ((0 : Int) < (k : Int)) = true := decide_eq_true (by omega)
          have x7 : decide (0 < k) = true := decide_eq_true (by omega)
          have d2 : (wr.alloc (.cells #[.string K, .string Bd, .int .i64 rf] 35)).cell? ⟨b, o + j * 3, none⟩ = some (.string Kp) := by rw [World.cell?_alloc_past _ b _ hbl]; exact d0
          replace hkj := hid_mk hkj
          obtain ⟨c, hc⟩ : ∃ c, sL Kp K = c := ⟨_, rfl⟩
          rw [hc] at hst
          have hcl : Op.bytesLess Kp.toList K.toList = c := hc
          have hcr : (Op.bytesLess K.toList Kp.toList || K.toList == Kp.toList) = !c := by
            rw [str_eq]
            cases c
            · rcases sL_tri hc with h1 | h1
              · unfold sL at h1; rw [h1]; rfl
              · rw [h1]; simp
            · have h1 := sL_asym hc
              have h2 := sL_ne hc
              unfold sL at h1
              rw [h1, decide_eq_false (fun e => h2 e.symm)]; rfl
          replace hc := hid_mk hc
          replace hpv := hid_mk hpv
          replace hij := hid_mk hij
          replace hKp := hid_mk hKp
          cases c
          · have hRf : Hid (R = false) := by rw [Hid, hRk.out, hpv.out, hst]; rfl
            replace hst := hid_mk hst
            go_wp2_with fail
            go_quiet (fail)
            go_wp2
            refine ends_ret hQ (results_tmp rfl _ _ _) rfl ?_
            exact ⟨by rw [hRf.out]; rfl, below_drewN hb2.out _⟩
          · have hRn : Hid (R = okItms (prevK is (k + 1)) (is.drop (k + 1))) := by rw [Hid, hRk.out, hpv.out, hst]; rfl
            replace hst := hid_mk hst
            go_wp2_with fail
            go_quiet (fail)
            go_wp2
            go_roundw
            case rel => exact ⟨k + 1, by go_num, by omega, hRn, hid_mk (below_drewN hb2.out _), hB2⟩
            case measure => simp [intOf]; omega
      · have hfin : Hid (R = true) := by
          rw [Hid, hRk.out, List.drop_eq_nil_of_le (by rw [hlen.out]; omega)]; rfl
        have cB : wr.cell? ⟨w.heap.size, 0, none⟩ = some (.slice A n cap) := hB.out.cell 0
        have lB := hB.out.lt
        go_wp2
        refine ends_ret hQ (results_tmp rfl _ _ _) rfl ?_
        exact ⟨by rw [hfin.out]; rfl, hb.out⟩
set_option maxHeartbeats 6400000 in
theorem RRight_any (is : List Itm) (A : Option Addr) (n cap : Nat) (w : World) {B : Nat} (hm : n ≤ 8796093022208) (h0 : Itms w B A n is) :
    Calls Try.prog 12 #[.agg #[.slice A n cap]] w fun e w' => e = .returned (.bool (rightI is)) ∧ Below w.heap.size w w' := by
  have hlen := h0.len
  obtain ⟨R, hR⟩ : ∃ R, rightI is = R := ⟨_, rfl⟩
  rw [hR]
  have hb0 : Hid (Below w.heap.size w (w.alloc (.cells #[.slice A n cap] 24))) := (Below.refl _ w).alloc (Nat.le_refl _) _
  have hB0 : Hid (Blk (w.alloc (.cells #[.slice A n cap] 24)) w.heap.size 24 #[.slice A n cap]) := Blk.new w 24 #[.slice A n cap]
  have h := hid_mk h0.top
  have hRo : Hid (R = (decide (n ≤ 4096) && okItms (prevK is 0) (is.drop 0))) := by rw [Hid, ← hR]; unfold rightI; rw [hlen]; rfl
  replace hR := hid_mk hR
  replace hlen := hid_mk hlen
  clear h0
  refine calls_of_wpQ Try.func12 rfl ?_
  intro Q hQ
  simp only [Try.ntmps12, List.size_toArray, List.length_cons, List.length_nil, Nat.reduceAdd, Nat.reduceSub, Array.replicate_succ, Array.replicate_zero, List.push_toArray, List.append_toArray, List.nil_append, List.cons_append]
  go_wp2
  go_loopw [8] (fun iv wr => ∃ (k : Nat), iv = .int .i64 k ∧ k ≤ n ∧ Hid (R = (decide (n ≤ 4096) && okItms (prevK is k) (is.drop k))) ∧ Hid (Below w.heap.size w wr) ∧ Hid (Blk wr w.heap.size 24 #[.slice A n cap])) (fun iv _ => n - (intOf iv).toNat)
  case atStart => exact ⟨0, rfl, Nat.zero_le _, hRo, hb0, hB0⟩
  case round =>
    clear hRo hb0 hB0
    obtain ⟨k, rfl, hk, hRk, hb, hB⟩ := hrel
    by_cases hlt : k < n
    · obtain ⟨b, o, i, rfl, hbl, hik, c0, c1, c2⟩ := (h.out.to hb.out).at_ hlt
      have hst := okItms_step hik
      obtain ⟨K, Bd, rf⟩ := i
      dsimp only at c0 c1 c2 hst
      have hb2 : Hid (Below w.heap.size w (wr.alloc (.cells #[.string K, .string Bd, .int .i64 rf] 35))) := hb.out.alloc hb.out.size _
      have hB2 : Hid (Blk (wr.alloc (.cells #[.string K, .string Bd, .int .i64 rf] 35)) w.heap.size 24 #[.slice (some ⟨b, o, none⟩) n cap]) := hB.out.alloc _
      have hN2 : Hid (Blk (wr.alloc (.cells #[.string K, .string Bd, .int .i64 rf] 35)) wr.heap.size 35 #[.string K, .string Bd, .int .i64 rf]) := Blk.new wr 35 #[.string K, .string Bd, .int .i64 rf]
      have f0 : (wr.alloc (.cells #[.string K, .string Bd, .int .i64 rf] 35)).cell? ⟨wr.heap.size, 0, none⟩ = some (.string K) := hN2.out.cell 0
      have f1 : (wr.alloc (.cells #[.string K, .string Bd, .int .i64 rf] 35)).cell? ⟨wr.heap.size, 1, none⟩ = some (.string Bd) := hN2.out.cell 1
      have f2 : (wr.alloc (.cells #[.string K, .string Bd, .int .i64 rf] 35)).cell? ⟨wr.heap.size, 2, none⟩ = some (.int .i64 rf) := hN2.out.cell 2
      have f3 : (wr.alloc (.cells #[.string K, .string Bd, .int .i64 rf] 35)).cell? ⟨w.heap.size, 0, none⟩ = some (.slice (some ⟨b, o, none⟩) n cap) := hB2.out.cell 0
      replace hik := hid_mk hik
      have k0 : (0 : Int) ≤ k := by omega
      have k1 : (k : Int) < n := by omega
      by_cases e1 : K.size = 32
      case neg =>
        have hRf : Hid (R = false) := by rw [Hid, hRk.out, hst, bad_of (by omega)]; simp
        have x1 : ((K.size : Int) != 32) = true := by simp; omega
        replace hst := hid_mk hst
        go_wp2
        refine ends_ret hQ (results_tmp rfl _ _ _) rfl ?_
        exact ⟨by rw [hRf.out]; rfl, hb2.out⟩
      have x1 : ((K.size : Int) != 32) = false := by simp; omega
      have s2 := str_nil Bd
      have s2' := s2
      rw [toList_nil] at s2'
      by_cases e2 : Bd.size = 0
      case pos =>
        have hRf : Hid (R = false) := by rw [Hid, hRk.out, hst, bad_of (by omega)]; simp
        rw [decide_eq_true e2] at s2 s2'
        replace hst := hid_mk hst
        go_wp2
        refine ends_ret hQ (results_tmp rfl _ _ _) rfl ?_
        exact ⟨by rw [hRf.out]; rfl, hb2.out⟩
      rw [decide_eq_false e2] at s2 s2'
      have e2' : 0 < Bd.size := by omega
      by_cases e3 : 512 < Bd.size
      case pos =>
        have x3 : decide ((512 : Int) < (Bd.size : Int)) = true := decide_eq_true (by omega)
        have hRf : Hid (R = false) := by rw [Hid, hRk.out, hst, bad_of (by omega)]; simp
        replace hst := hid_mk hst
        go_wp2
        refine ends_ret hQ (results_tmp rfl _ _ _) rfl ?_
        exact ⟨by rw [hRf.out]; rfl, hb2.out⟩
      have x3 : decide ((512 : Int) < (Bd.size : Int)) = false := decide_eq_false (by omega)
      by_cases e4 : rf < 0
      case pos =>
        have x4 : decide (rf < 0) = true := decide_eq_true (by omega)
        have hRf : Hid (R = false) := by rw [Hid, hRk.out, hst, bad_of (by omega)]; simp
        replace hst := hid_mk hst
        go_wp2
        refine ends_ret hQ (results_tmp rfl _ _ _) rfl ?_
        exact ⟨by rw [hRf.out]; rfl, hb2.out⟩
      have x4 : decide (rf < 0) = false := decide_eq_false (by omega)
      by_cases e5 : 1073741824 < rf
      case pos =>
        have x5 : decide (1073741824 < rf) = true := decide_eq_true (by omega)
        have hRf : Hid (R = false) := by rw [Hid, hRk.out, hst, bad_of (by omega)]; simp
        replace hst := hid_mk hst
        go_wp2
        refine ends_ret hQ (results_tmp rfl _ _ _) rfl ?_
        exact ⟨by rw [hRf.out]; rfl, hb2.out⟩
      rw [ok_of e1 e2 e3 e4 e5, Bool.true_and] at hst
      have x5 : decide (1073741824 < rf) = false := decide_eq_false (by omega)
      rcases Nat.eq_zero_or_pos k with hk0 | hk0
      · have hpv : prevK is k = none := by rw [hk0]; rfl
        rw [hpv] at hst
        have hRn : Hid (R = (decide (n ≤ 4096) && okItms (prevK is (k + 1)) (is.drop (k + 1)))) := by rw [Hid, hRk.out, hpv, hst]; simp
        have x6 : decide ((0 : Int) < (k : Int)) = false := decide_eq_false (by omega)
        have x7 : decide (0 < k) = false := decide_eq_false (by omega)
        replace hst := hid_mk hst
        replace hpv := hid_mk hpv
        replace hk0 := hid_mk hk0
        go_wp2_with fail
        go_quiet (fail)
        go_wp2
        go_roundw
        case rel => exact ⟨k + 1, by go_num, by omega, hRn, hid_mk (below_drewN hb2.out _), hB2⟩
        case measure => simp [intOf]; omega
      · obtain ⟨j, hkj⟩ : ∃ j, k - 1 = j := ⟨_, rfl⟩
        obtain ⟨b', o', i', hA', hbl', hij, d0, _, _⟩ := (h.out.to hb.out).at_ (show j < n by omega)
        have hbo : b = b' ∧ o = o' := by injection hA' with e; injection e with e1 e2; exact ⟨e1, e2⟩
        obtain ⟨rfl, rfl⟩ := hbo
        obtain ⟨Kp, hKp⟩ : ∃ K, i'.k = K := ⟨_, rfl⟩
        rw [hKp] at d0
        have hpv : prevK is k = some Kp := by
          unfold prevK
          rw [if_neg (by omega), hkj, hij, Option.map_some, hKp]
        rw [hpv] at hst
        change okItms (some Kp) (is.drop k) = (sL Kp K && okItms (prevK is (k + 1)) (is.drop (k + 1))) at hst
        have j1 : (k : Int) - 1 = (j : Int) := by omega
        have j2 : (0 : Int) ≤ (j : Int) := by omega
        have j3 : (j : Int) < (n : Int) := by omega
        have j5 : IntKind.i64.wrap ((k : Int) - 1) = (j : Int) := by rw [j1]; exact IntWalk.i64_in _ (by omega)
        have j6 : IntKind.i64.wrap (j : Int) = (j : Int) := IntWalk.i64_in _ (by omega)
        have x6 : decide ((0 : Int) < (k : Int)) = true := decide_eq_true (by omega)
        have x7 : decide (0 < k) = true := decide_eq_true (by omega)
        have d2 : (wr.alloc (.cells #[.string K, .string Bd, .int .i64 rf] 35)).cell? ⟨b, o + j * 3, none⟩ = some (.string Kp) := by rw [World.cell?_alloc_past _ b _ hbl]; exact d0
        replace hkj := hid_mk hkj
        obtain ⟨c, hc⟩ : ∃ c, sL Kp K = c := ⟨_, rfl⟩
        rw [hc] at hst
        have hcl : Op.bytesLess Kp.toList K.toList = c := hc
        have hcr : (Op.bytesLess K.toList Kp.toList || K.toList == Kp.toList) = !c := by
          rw [str_eq]
          cases c
          · rcases sL_tri hc with h1 | h1
            · unfold sL at h1; rw [h1]; rfl
            · rw [h1]; simp
          · have h1 := sL_asym hc
            have h2 := sL_ne hc
            unfold sL at h1
            rw [h1, decide_eq_false (fun e => h2 e.symm)]; rfl
        replace hc := hid_mk hc
        replace hpv := hid_mk hpv
        replace hij := hid_mk hij
        replace hKp := hid_mk hKp
        cases c
        · have hRf : Hid (R = false) := by rw [Hid, hRk.out, hpv.out, hst]; simp
          replace hst := hid_mk hst
          go_wp2_with fail
          go_quiet (fail)
          go_wp2
          refine ends_ret hQ (results_tmp rfl _ _ _) rfl ?_
          exact ⟨by rw [hRf.out]; rfl, below_drewN hb2.out _⟩
        · have hRn : Hid (R = (decide (n ≤ 4096) && okItms (prevK is (k + 1)) (is.drop (k + 1)))) := by rw [Hid, hRk.out, hpv.out, hst]; simp
          replace hst := hid_mk hst
          go_wp2_with fail
          go_quiet (fail)
          go_wp2
          go_roundw
          case rel => exact ⟨k + 1, by go_num, by omega, hRn, hid_mk (below_drewN hb2.out _), hB2⟩
          case measure => simp [intOf]; omega
    · have hfin : Hid (R = decide (n ≤ 4096)) := by
        rw [Hid, hRk.out, List.drop_eq_nil_of_le (by rw [hlen.out]; omega)]; rw [show okItms (prevK is k) [] = true from rfl, Bool.and_true]
      have cB : wr.cell? ⟨w.heap.size, 0, none⟩ = some (.slice A n cap) := hB.out.cell 0
      have lB := hB.out.lt
      go_wp2
      refine ends_ret hQ (results_tmp rfl _ _ _) rfl ?_
      exact ⟨by rw [hfin.out]; simp; omega, hb.out⟩
end Go.Proofs.Ytngaeencnklbdaa
