/-
  WHAT IS PROVED HERE: what plural.rules, plural.Table and plural.Category hand back; that one is one in English. Condition: the number is an int64.
-/
import Derived.Test.YtfafinnklniniaaDoorPlu7
import Derived.Test.YtfafinnklniniaaDoorPlu3
import Derived.Test.YtfafinnklniniaaDoorOpenS
import Derived.Lib.Strings
namespace Go.Proofs.YtfafinnklniniaaDoor
open Go.RowKit

theorem toL_ne {l : ByteArray} {xs : List UInt8} (h : ¬ l = ⟨xs.toArray⟩) : ¬ l.toList = xs := fun e => h (by
  rw [Lib.toList_data] at e
  cases l with | mk d => rw [← e])
theorem toL_eq {l : ByteArray} {xs : List UInt8} (h : l = ⟨xs.toArray⟩) : l.toList = xs := by rw [h, Lib.toList_data]
/-- the rules of a language: a category, a text, and so on -/
def rulesL (l : ByteArray) : List ByteArray :=
  if l = ⟨#[101, 110]⟩ ∨ l = ⟨#[100, 101]⟩ then [⟨#[111, 110, 101]⟩, ⟨#[105, 32, 61, 32, 49]⟩]
  else  if l = ⟨#[102, 114]⟩ then [⟨#[111, 110, 101]⟩, ⟨#[105, 32, 61, 32, 48, 44, 49]⟩]
  else  if l = ⟨#[114, 117]⟩ then [⟨#[111, 110, 101]⟩, ⟨#[105, 32, 37, 32, 49, 48, 32, 61, 32, 49, 32, 97, 110, 100, 32, 105, 32, 37, 32, 49, 48, 48, 32, 33, 61, 32, 49, 49]⟩, ⟨#[102, 101, 119]⟩, ⟨#[105, 32, 37, 32, 49, 48, 32, 61, 32, 50, 46, 46, 52, 32, 97, 110, 100, 32, 105, 32, 37, 32, 49, 48, 48, 32, 33, 61, 32, 49, 50, 46, 46, 49, 52]⟩, ⟨#[109, 97, 110, 121]⟩, ⟨#[105, 32, 37, 32, 49, 48, 32, 61, 32, 48, 44, 53, 46, 46, 57, 32, 111, 114, 32, 105, 32, 37, 32, 49, 48, 48, 32, 61, 32, 49, 49, 46, 46, 49, 52]⟩]
  else  if l = ⟨#[112, 108]⟩ then [⟨#[111, 110, 101]⟩, ⟨#[105, 32, 61, 32, 49]⟩, ⟨#[102, 101, 119]⟩, ⟨#[105, 32, 37, 32, 49, 48, 32, 61, 32, 50, 46, 46, 52, 32, 97, 110, 100, 32, 105, 32, 37, 32, 49, 48, 48, 32, 33, 61, 32, 49, 50, 46, 46, 49, 52]⟩, ⟨#[109, 97, 110, 121]⟩, ⟨#[105, 32, 37, 32, 49, 48, 32, 61, 32, 48, 44, 49, 44, 53, 46, 46, 57, 32, 111, 114, 32, 105, 32, 37, 32, 49, 48, 48, 32, 61, 32, 49, 50, 46, 46, 49, 52]⟩]
  else  if l = ⟨#[99, 115]⟩ then [⟨#[111, 110, 101]⟩, ⟨#[105, 32, 61, 32, 49]⟩, ⟨#[102, 101, 119]⟩, ⟨#[105, 32, 61, 32, 50, 46, 46, 52]⟩]
  else  if l = ⟨#[97, 114]⟩ then [⟨#[122, 101, 114, 111]⟩, ⟨#[105, 32, 61, 32, 48]⟩, ⟨#[111, 110, 101]⟩, ⟨#[105, 32, 61, 32, 49]⟩, ⟨#[116, 119, 111]⟩, ⟨#[105, 32, 61, 32, 50]⟩, ⟨#[102, 101, 119]⟩, ⟨#[105, 32, 37, 32, 49, 48, 48, 32, 61, 32, 51, 46, 46, 49, 48]⟩, ⟨#[109, 97, 110, 121]⟩, ⟨#[105, 32, 37, 32, 49, 48, 48, 32, 61, 32, 49, 49, 46, 46, 57, 57]⟩]
  else  if l = ⟨#[115, 108]⟩ then [⟨#[111, 110, 101]⟩, ⟨#[105, 32, 37, 32, 49, 48, 48, 32, 61, 32, 49]⟩, ⟨#[116, 119, 111]⟩, ⟨#[105, 32, 37, 32, 49, 48, 48, 32, 61, 32, 50]⟩, ⟨#[102, 101, 119]⟩, ⟨#[105, 32, 37, 32, 49, 48, 48, 32, 61, 32, 51, 44, 52]⟩]
  else  if l = ⟨#[99, 121]⟩ then [⟨#[122, 101, 114, 111]⟩, ⟨#[105, 32, 61, 32, 48]⟩, ⟨#[111, 110, 101]⟩, ⟨#[105, 32, 61, 32, 49]⟩, ⟨#[116, 119, 111]⟩, ⟨#[105, 32, 61, 32, 50]⟩, ⟨#[102, 101, 119]⟩, ⟨#[105, 32, 61, 32, 51]⟩, ⟨#[109, 97, 110, 121]⟩, ⟨#[105, 32, 61, 32, 54]⟩]
  else []
set_option maxRecDepth 100000 in
set_option maxHeartbeats 1600000 in
theorem rules_any (l : ByteArray) (w : World) : Calls Tryd.prog 40 #[.string l] w fun e w' => ∃ A n c, e = .returned (.slice A n c) ∧ Strs w' 0 A n (rulesL l) ∧ n ≤ 10 ∧ n % 2 = 0 ∧ Below w.heap.size w w' := by
  by_cases hen : l = ⟨#[101, 110]⟩
  · subst hen
    have hn := reads_new w #[.string ⟨#[111, 110, 101]⟩, .string ⟨#[105, 32, 61, 32, 49]⟩] 9 2 1 0 rfl
    refine calls_of_wpQ Tryd.func40 rfl ?_
    intro Q hQ
    simp only [Tryd.ntmps40, List.size_toArray, List.length_cons, List.length_nil, Nat.reduceAdd, Nat.reduceSub, Array.replicate_succ, Array.replicate_zero, List.push_toArray, List.append_toArray, List.nil_append, List.cons_append]
    go_wp2
    refine ends_ret hQ (results_tmp rfl _ _ _) rfl ?_
    exact ⟨some ⟨w.heap.size, 0, none⟩, 2, 2, rfl, hn, by omega, by omega, by go_grown⟩
  by_cases hde : l = ⟨#[100, 101]⟩
  · subst hde
    have hn := reads_new w #[.string ⟨#[111, 110, 101]⟩, .string ⟨#[105, 32, 61, 32, 49]⟩] 9 2 1 0 rfl
    refine calls_of_wpQ Tryd.func40 rfl ?_
    intro Q hQ
    simp only [Tryd.ntmps40, List.size_toArray, List.length_cons, List.length_nil, Nat.reduceAdd, Nat.reduceSub, Array.replicate_succ, Array.replicate_zero, List.push_toArray, List.append_toArray, List.nil_append, List.cons_append]
    go_wp2
    refine ends_ret hQ (results_tmp rfl _ _ _) rfl ?_
    exact ⟨some ⟨w.heap.size, 0, none⟩, 2, 2, rfl, hn, by omega, by omega, by go_grown⟩
  by_cases hfr : l = ⟨#[102, 114]⟩
  · subst hfr
    have hn := reads_new w #[.string ⟨#[111, 110, 101]⟩, .string ⟨#[105, 32, 61, 32, 48, 44, 49]⟩] 9 2 1 0 rfl
    refine calls_of_wpQ Tryd.func40 rfl ?_
    intro Q hQ
    simp only [Tryd.ntmps40, List.size_toArray, List.length_cons, List.length_nil, Nat.reduceAdd, Nat.reduceSub, Array.replicate_succ, Array.replicate_zero, List.push_toArray, List.append_toArray, List.nil_append, List.cons_append]
    go_wp2
    refine ends_ret hQ (results_tmp rfl _ _ _) rfl ?_
    exact ⟨some ⟨w.heap.size, 0, none⟩, 2, 2, rfl, hn, by omega, by omega, by go_grown⟩
  by_cases hru : l = ⟨#[114, 117]⟩
  · subst hru
    have hn := reads_new w #[.string ⟨#[111, 110, 101]⟩, .string ⟨#[105, 32, 37, 32, 49, 48, 32, 61, 32, 49, 32, 97, 110, 100, 32, 105, 32, 37, 32, 49, 48, 48, 32, 33, 61, 32, 49, 49]⟩, .string ⟨#[102, 101, 119]⟩, .string ⟨#[105, 32, 37, 32, 49, 48, 32, 61, 32, 50, 46, 46, 52, 32, 97, 110, 100, 32, 105, 32, 37, 32, 49, 48, 48, 32, 33, 61, 32, 49, 50, 46, 46, 49, 52]⟩, .string ⟨#[109, 97, 110, 121]⟩, .string ⟨#[105, 32, 37, 32, 49, 48, 32, 61, 32, 48, 44, 53, 46, 46, 57, 32, 111, 114, 32, 105, 32, 37, 32, 49, 48, 48, 32, 61, 32, 49, 49, 46, 46, 49, 52]⟩] 9 6 1 0 rfl
    refine calls_of_wpQ Tryd.func40 rfl ?_
    intro Q hQ
    simp only [Tryd.ntmps40, List.size_toArray, List.length_cons, List.length_nil, Nat.reduceAdd, Nat.reduceSub, Array.replicate_succ, Array.replicate_zero, List.push_toArray, List.append_toArray, List.nil_append, List.cons_append]
    go_wp2
    refine ends_ret hQ (results_tmp rfl _ _ _) rfl ?_
    exact ⟨some ⟨w.heap.size, 0, none⟩, 6, 6, rfl, hn, by omega, by omega, by go_grown⟩
  by_cases hpl : l = ⟨#[112, 108]⟩
  · subst hpl
    have hn := reads_new w #[.string ⟨#[111, 110, 101]⟩, .string ⟨#[105, 32, 61, 32, 49]⟩, .string ⟨#[102, 101, 119]⟩, .string ⟨#[105, 32, 37, 32, 49, 48, 32, 61, 32, 50, 46, 46, 52, 32, 97, 110, 100, 32, 105, 32, 37, 32, 49, 48, 48, 32, 33, 61, 32, 49, 50, 46, 46, 49, 52]⟩, .string ⟨#[109, 97, 110, 121]⟩, .string ⟨#[105, 32, 37, 32, 49, 48, 32, 61, 32, 48, 44, 49, 44, 53, 46, 46, 57, 32, 111, 114, 32, 105, 32, 37, 32, 49, 48, 48, 32, 61, 32, 49, 50, 46, 46, 49, 52]⟩] 9 6 1 0 rfl
    refine calls_of_wpQ Tryd.func40 rfl ?_
    intro Q hQ
    simp only [Tryd.ntmps40, List.size_toArray, List.length_cons, List.length_nil, Nat.reduceAdd, Nat.reduceSub, Array.replicate_succ, Array.replicate_zero, List.push_toArray, List.append_toArray, List.nil_append, List.cons_append]
    go_wp2
    refine ends_ret hQ (results_tmp rfl _ _ _) rfl ?_
    exact ⟨some ⟨w.heap.size, 0, none⟩, 6, 6, rfl, hn, by omega, by omega, by go_grown⟩
  by_cases hcs : l = ⟨#[99, 115]⟩
  · subst hcs
    have hn := reads_new w #[.string ⟨#[111, 110, 101]⟩, .string ⟨#[105, 32, 61, 32, 49]⟩, .string ⟨#[102, 101, 119]⟩, .string ⟨#[105, 32, 61, 32, 50, 46, 46, 52]⟩] 9 4 1 0 rfl
    refine calls_of_wpQ Tryd.func40 rfl ?_
    intro Q hQ
    simp only [Tryd.ntmps40, List.size_toArray, List.length_cons, List.length_nil, Nat.reduceAdd, Nat.reduceSub, Array.replicate_succ, Array.replicate_zero, List.push_toArray, List.append_toArray, List.nil_append, List.cons_append]
    go_wp2
    refine ends_ret hQ (results_tmp rfl _ _ _) rfl ?_
    exact ⟨some ⟨w.heap.size, 0, none⟩, 4, 4, rfl, hn, by omega, by omega, by go_grown⟩
  by_cases har : l = ⟨#[97, 114]⟩
  · subst har
    have hn := reads_new w #[.string ⟨#[122, 101, 114, 111]⟩, .string ⟨#[105, 32, 61, 32, 48]⟩, .string ⟨#[111, 110, 101]⟩, .string ⟨#[105, 32, 61, 32, 49]⟩, .string ⟨#[116, 119, 111]⟩, .string ⟨#[105, 32, 61, 32, 50]⟩, .string ⟨#[102, 101, 119]⟩, .string ⟨#[105, 32, 37, 32, 49, 48, 48, 32, 61, 32, 51, 46, 46, 49, 48]⟩, .string ⟨#[109, 97, 110, 121]⟩, .string ⟨#[105, 32, 37, 32, 49, 48, 48, 32, 61, 32, 49, 49, 46, 46, 57, 57]⟩] 9 10 1 0 rfl
    refine calls_of_wpQ Tryd.func40 rfl ?_
    intro Q hQ
    simp only [Tryd.ntmps40, List.size_toArray, List.length_cons, List.length_nil, Nat.reduceAdd, Nat.reduceSub, Array.replicate_succ, Array.replicate_zero, List.push_toArray, List.append_toArray, List.nil_append, List.cons_append]
    go_wp2
    refine ends_ret hQ (results_tmp rfl _ _ _) rfl ?_
    exact ⟨some ⟨w.heap.size, 0, none⟩, 10, 10, rfl, hn, by omega, by omega, by go_grown⟩
  by_cases hsl : l = ⟨#[115, 108]⟩
  · subst hsl
    have hn := reads_new w #[.string ⟨#[111, 110, 101]⟩, .string ⟨#[105, 32, 37, 32, 49, 48, 48, 32, 61, 32, 49]⟩, .string ⟨#[116, 119, 111]⟩, .string ⟨#[105, 32, 37, 32, 49, 48, 48, 32, 61, 32, 50]⟩, .string ⟨#[102, 101, 119]⟩, .string ⟨#[105, 32, 37, 32, 49, 48, 48, 32, 61, 32, 51, 44, 52]⟩] 9 6 1 0 rfl
    refine calls_of_wpQ Tryd.func40 rfl ?_
    intro Q hQ
    simp only [Tryd.ntmps40, List.size_toArray, List.length_cons, List.length_nil, Nat.reduceAdd, Nat.reduceSub, Array.replicate_succ, Array.replicate_zero, List.push_toArray, List.append_toArray, List.nil_append, List.cons_append]
    go_wp2
    refine ends_ret hQ (results_tmp rfl _ _ _) rfl ?_
    exact ⟨some ⟨w.heap.size, 0, none⟩, 6, 6, rfl, hn, by omega, by omega, by go_grown⟩
  by_cases hcy : l = ⟨#[99, 121]⟩
  · subst hcy
    have hn := reads_new w #[.string ⟨#[122, 101, 114, 111]⟩, .string ⟨#[105, 32, 61, 32, 48]⟩, .string ⟨#[111, 110, 101]⟩, .string ⟨#[105, 32, 61, 32, 49]⟩, .string ⟨#[116, 119, 111]⟩, .string ⟨#[105, 32, 61, 32, 50]⟩, .string ⟨#[102, 101, 119]⟩, .string ⟨#[105, 32, 61, 32, 51]⟩, .string ⟨#[109, 97, 110, 121]⟩, .string ⟨#[105, 32, 61, 32, 54]⟩] 9 10 1 0 rfl
    refine calls_of_wpQ Tryd.func40 rfl ?_
    intro Q hQ
    simp only [Tryd.ntmps40, List.size_toArray, List.length_cons, List.length_nil, Nat.reduceAdd, Nat.reduceSub, Array.replicate_succ, Array.replicate_zero, List.push_toArray, List.append_toArray, List.nil_append, List.cons_append]
    go_wp2
    refine ends_ret hQ (results_tmp rfl _ _ _) rfl ?_
    exact ⟨some ⟨w.heap.size, 0, none⟩, 10, 10, rfl, hn, by omega, by omega, by go_grown⟩
  have hr : rulesL l = [] := by
    unfold rulesL
    simp only [hen, hde, hfr, hru, hpl, hcs, har, hsl, hcy, or_self, if_false]
  rw [hr]
  clear hr
  have een := toL_ne hen
  have fen : (l.toList == [101, 110]) = false := by simpa using een
  have ede := toL_ne hde
  have fde : (l.toList == [100, 101]) = false := by simpa using ede
  have efr := toL_ne hfr
  have ffr : (l.toList == [102, 114]) = false := by simpa using efr
  have eru := toL_ne hru
  have fru : (l.toList == [114, 117]) = false := by simpa using eru
  have epl := toL_ne hpl
  have fpl : (l.toList == [112, 108]) = false := by simpa using epl
  have ecs := toL_ne hcs
  have fcs : (l.toList == [99, 115]) = false := by simpa using ecs
  have ear := toL_ne har
  have far : (l.toList == [97, 114]) = false := by simpa using ear
  have esl := toL_ne hsl
  have fsl : (l.toList == [115, 108]) = false := by simpa using esl
  have ecy := toL_ne hcy
  have fcy : (l.toList == [99, 121]) = false := by simpa using ecy
  refine calls_of_wpQ Tryd.func40 rfl ?_
  intro Q hQ
  simp only [Tryd.ntmps40, List.size_toArray, List.length_cons, List.length_nil, Nat.reduceAdd, Nat.reduceSub, Array.replicate_succ, Array.replicate_zero, List.push_toArray, List.append_toArray, List.nil_append, List.cons_append]
  go_wp2
  refine ends_ret hQ (results_tmp rfl _ _ _) rfl ?_
  exact ⟨none, 0, 0, rfl, Reads.none_, by omega, by omega, Below.refl _ _⟩
/-- a language's table: a category and its rule, each -/
def catC (z : (ByteArray × List (List Rl)) × Sl) : List Value := [.string z.1.1, slV z.2]
def Cats (w : World) (B : Nat) (A : Option Addr) (n : Nat) (l : List (ByteArray × List (List Rl))) : Prop :=
  ∃ zs : List ((ByteArray × List (List Rl)) × Sl), zs.map (·.1) = l ∧ Reads w B 71 2 A n (zs.flatMap catC) ∧ ∀ z ∈ zs, Rule w B z.2.1 z.2.2.1 z.1.2 ∧ z.2.2.1 ≤ 8796093022208
def tableL : List ByteArray → List (ByteArray × List (List Rl))
  | n :: t :: r => (n, (parseF t.data.toList).1) :: tableL r
  | _ => []
def other : ByteArray := ⟨#[111, 116, 104, 101, 114]⟩
def catL (m : Int) : List (ByteArray × List (List Rl)) → ByteArray
  | [] => other
  | c :: l => if ruleOk c.2 && ruleHolds m c.2 then c.1 else catL m l
theorem catC_len : ∀ l : List ((ByteArray × List (List Rl)) × Sl), (l.flatMap catC).length = l.length * 2
  | [] => rfl
  | s :: l => by have := catC_len l; simp only [List.flatMap_cons, List.length_append, this, catC, List.length_cons, List.length_nil]; omega
theorem catC_at : ∀ (l : List ((ByteArray × List (List Rl)) × Sl)) (k : Nat) (z : (ByteArray × List (List Rl)) × Sl), l[k]? = some z → (l.flatMap catC)[k * 2]? = some (.string z.1.1) ∧ (l.flatMap catC)[k * 2 + 1]? = some (slV z.2)
  | s :: l, 0, s', h => by
    simp only [List.getElem?_cons_zero, Option.some.injEq] at h
    subst h
    simp [catC]
  | s :: l, k + 1, s', h => by
    have ih := catC_at l k s' (by simpa using h)
    have e : ∀ j, ((s :: l).flatMap catC)[j + 2]? = (l.flatMap catC)[j]? := by intro j; simp [catC]
    rw [show (k + 1) * 2 = k * 2 + 2 from by omega, show k * 2 + 2 + 1 = k * 2 + 1 + 2 from by omega, e, e]
    exact ih
section
variable {w w' : World} {B n : Nat} {A : Option Addr} {l : List (ByteArray × List (List Rl))}
theorem Cats.len (h : Cats w B A n l) : l.length = n := by
  obtain ⟨zs, rfl, h1, _⟩ := h
  have := h1.1
  rw [catC_len] at this
  simp; omega
theorem Cats.to (h : Cats w B A n l) (hb : Below w.heap.size w w') : Cats w' B A n l := by
  obtain ⟨zs, h0, h1, h2⟩ := h
  exact ⟨zs, h0, h1.to hb, fun z hz => ⟨(h2 z hz).1.to hb, (h2 z hz).2⟩⟩
theorem Cats.at_ {k : Nat} (h : Cats w B A n l) (hk : k < n) :
    ∃ b o x v, A = some ⟨b, o, none⟩ ∧ b < w.heap.size ∧ Hid (l.drop k = x :: l.drop (k + 1)) ∧ w.cell? ⟨b, o + k * 2, none⟩ = some (.string x.1) ∧ w.cell? ⟨b, o + k * 2 + 1, none⟩ = some (slV v) ∧ Rule w B v.1 v.2.1 x.2 ∧ v.2.1 ≤ 8796093022208 := by
  have hlen := h.len
  obtain ⟨zs, rfl, h1, h2⟩ := h
  obtain ⟨b, o, e, hb, _, hc⟩ := h1.2 (by omega)
  have hl : k < zs.length := by simp at hlen; omega
  obtain ⟨c0, c1⟩ := catC_at zs k zs[k] (List.getElem?_eq_getElem hl)
  exact ⟨b, o, zs[k].1, zs[k].2, e, hb, drop_of_get (by simp [List.getElem?_eq_getElem hl]), hc _ _ c0, hc _ _ c1, h2 _ (List.getElem_mem hl)⟩
end
theorem Rule.stay {w w' : World} {n : Nat} {A : Option Addr} {l : List (List Rl)} {row : Option Nat} (h : Rule w 0 A n l) (hg : w.grownBy w' row) (hr : ∀ k, row = some k → ∃ t cs fr, w.heap[k]? = some (.cells cs t fr) ∧ t ≠ 45 ∧ t ≠ 37 ∧ t ≠ 34) : Rule w' 0 A n l := by
  obtain ⟨zs, h0, h1, h2⟩ := h
  exact ⟨zs, h0, h1.stay hg (fun k hk => by obtain ⟨t, cs, fr, a, _, _, d⟩ := hr k hk; exact ⟨t, cs, fr, a, d⟩), fun z hz => ⟨(h2 z hz).1.stay hg (fun k hk => by obtain ⟨t, cs, fr, a, b, c, _⟩ := hr k hk; exact ⟨t, cs, fr, a, b, c⟩), (h2 z hz).2⟩⟩
def OwnC (w : World) (B : Nat) (v : Value) (zs : List ((ByteArray × List (List Rl)) × Sl)) : Prop := w.ownsRow B 71 2 v zs.length (zs.flatMap catC) ∧ ∀ z ∈ zs, Rule w 0 z.2.1 z.2.2.1 z.1.2 ∧ z.2.2.1 ≤ 8796093022208
section
variable {w w' : World} {B g : Nat} {v : Value} {zs : List ((ByteArray × List (List Rl)) × Sl)}
theorem OwnC.to (h : OwnC w B v zs) (hb : Below w.heap.size w w') : OwnC w' B v zs :=
  ⟨World.ownsRow.kept (row := none) h.1 (gb_of hb) (by cases hh : v.ownBlock; exact .inl rfl; exact .inr (by simp)), fun z hz => ⟨(h.2 z hz).1.to hb, (h.2 z hz).2⟩⟩
theorem OwnC.cats {A : Option Addr} {n c : Nat} (h : OwnC w B (.slice A n c) zs) (hn : n = zs.length) : Cats w 0 A n (zs.map (·.1)) := by
  subst hn
  exact ⟨zs, rfl, reads_of_own h.1, h.2⟩
theorem OwnC.app {wa : World} {va : Value} {z : (ByteArray × List (List Rl)) × Sl} (h : OwnC w B v zs) (hs : Rule w 0 z.2.1 z.2.2.1 z.1.2) (hn : z.2.2.1 ≤ 8796093022208) (hga : w.grownBy wa v.ownBlock) (hown : wa.ownsRow B 71 2 va (zs.length + 1) (zs.flatMap catC ++ catC z)) : OwnC wa B va (zs ++ [z]) := by
  have hr : ∀ k, v.ownBlock = some k → ∃ t cs fr, w.heap[k]? = some (.cells cs t fr) ∧ t ≠ 45 ∧ t ≠ 37 ∧ t ≠ 34 := fun k hk => by
    obtain ⟨cs, fr, h1⟩ := own_typed h.1 k hk
    exact ⟨_, cs, fr, h1, by decide, by decide, by decide⟩
  refine ⟨by simpa [List.flatMap_append] using hown, fun y hy => ?_⟩
  rcases List.mem_append.1 hy with hy | hy
  · exact ⟨(h.2 y hy).1.stay hga hr, (h.2 y hy).2⟩
  · rw [List.mem_singleton] at hy
    subst hy
    exact ⟨hs.stay hga hr, hn⟩
end
theorem catJ : (Tryd.prog.info? 71).map (fun i => (i.zero, i.size, i.bytes)) = some (some (.agg #[.string ⟨#[]⟩, .slice none 0 0]), 2, 40) := by kernel_rfl
theorem catC_one (z : (ByteArray × List (List Rl)) × Sl) : ∀ u ∈ catC z, u.oneCell' = true := by
  intro u hu
  simp only [catC, List.mem_cons, List.mem_nil_iff, or_false] at hu
  rcases hu with rfl | rfl <;> rfl
theorem tableL_two {ss : List ByteArray} {k : Nat} {a b : ByteArray} (ha : ss.drop k = a :: ss.drop (k + 1)) (hb : ss.drop (k + 1) = b :: ss.drop (k + 2)) : tableL (ss.drop k) = (a, (parseF b.data.toList).1) :: tableL (ss.drop (k + 2)) := by
  rw [ha, hb, tableL]
set_option maxRecDepth 100000 in
set_option maxHeartbeats 3200000 in
theorem Table_any (l : ByteArray) (w : World) : Calls Tryd.prog 32 #[.string l] w fun e w' => ∃ A n c, e = .returned (.slice A n c) ∧ Cats w' 0 A n (tableL (rulesL l)) ∧ n ≤ 10 ∧ Below w.heap.size w w' := by
  obtain ⟨ss, hss⟩ : ∃ ss, rulesL l = ss := ⟨_, rfl⟩
  rw [hss]
  replace hss := hid_mk hss
  obtain ⟨TL, hTL⟩ : ∃ TL, tableL ss = TL := ⟨_, rfl⟩
  have hT0 : Hid (TL = ([] : List ((ByteArray × List (List Rl)) × Sl)).map (·.1) ++ tableL (ss.drop 0)) := by rw [Hid, ← hTL]; simp
  rw [hTL]
  replace hTL := hid_mk hTL
  obtain ⟨i0, hi0, hz0, hz1, hz2⟩ := info_partsK catJ
  refine calls_of_wpQ Tryd.func32 rfl ?_
  intro Q hQ
  simp only [Tryd.ntmps32, List.size_toArray, List.length_cons, List.length_nil, Nat.reduceAdd, Nat.reduceSub, Array.replicate_succ, Array.replicate_zero, List.push_toArray, List.append_toArray, List.nil_append, List.cons_append]
  go_wp2_with fail
  refine (rules_any l w).mono ?_
  rw [hss.out]
  rintro e w1 ⟨A, n, c, rfl, hS, hn, hev, hb1⟩
  have hlen := hid_mk hS.len
  replace hS := hid_mk hS
  replace hb1 := hid_mk hb1
  go_wp2_with fail
  go_loopw [4, 5] (fun ov iv wr => ∃ (i : Nat) (zs : List ((ByteArray × List (List Rl)) × Sl)), iv = .int .i64 i ∧ i ≤ n ∧ Hid (i = 2 * zs.length) ∧ Hid (OwnC wr w1.heap.size ov zs) ∧ Hid (TL = zs.map (·.1) ++ tableL (ss.drop i)) ∧ Hid (Below w1.heap.size w1 wr)) (fun _ iv _ => n - (intOf iv).toNat)
  case atStart => exact ⟨0, [], rfl, by omega, rfl, ⟨World.ownsRow_nil _ _ _ _, fun y hy => by cases hy⟩, hT0, Below.refl _ _⟩
  case round =>
    clear hT0
    obtain ⟨i, zs, rfl, hk, hzk, hOC, hT, hb⟩ := hrel
    by_cases hlt : i < n
    · have hlt1 : i + 1 < n := by have := hzk.out; omega
      obtain ⟨b, o, sa, heq, hbl, hda, _, ca⟩ := (hS.out.to hb.out).at_ hlt
      obtain ⟨b', o', sb, heq', hbl', hdb, _, cb⟩ := (hS.out.to hb.out).at_ hlt1
      rw [heq] at heq'
      injection heq' with heq'
      injection heq' with e1 e2
      subst e1; subst e2
      subst heq
      have hTn : Hid (TL = zs.map (·.1) ++ (sa, (parseF sb.data.toList).1) :: tableL (ss.drop (i + 2))) := by rw [Hid, hT.out, tableL_two hda.out hdb.out]
      have k0 : (0 : Int) ≤ (i : Int) := by omega
      have k1 : (i : Int) < n := by omega
      have k2 : IntKind.i64.wrap ((i : Int) + 1) = (i : Int) + 1 := IntWalk.i64_in _ (by omega)
      have k3 : (0 : Int) ≤ (i : Int) + 1 := by omega
      have k4 : (i : Int) + 1 < n := by omega
      have k5 : IntKind.i64.wrap ((i : Int) + 2) = (i : Int) + 2 := IntWalk.i64_in _ (by omega)
      have hzl : zs.length ≤ 10 := by have := hzk.out; omega
      go_wp2_with fail
      refine (Parse_any sb _).mono ?_
      rintro e w3 ⟨A3, n3, c3, rfl, hru, hn3, hb3⟩
      replace hOC := hid_mk (hOC.out.to hb3)
      have q3 := hid_mk (after (w := w1) hb3 hb.out).1
      have hS3 := hid_mk (hS.out.to q3.out)
      clear hb3 ca cb hbl hbl'
      obtain ⟨bx, ox, sx, heq, hbl, hda', _, ca⟩ := hS3.out.at_ hlt
      injection heq with heq
      injection heq with e1 e2
      subst e1; subst e2
      have hsx : sx = sa := by have h1 := hda'.out; rw [hda.out] at h1; injection h1 with h1 _; exact h1.symm
      subst hsx
      clear hda'
      obtain ⟨Ao, co, rfl, hk3, hk4⟩ := own_slice hOC.out.1
      have q5 : Below w3.heap.size w3 (w3.alloc (.cells #[.string sx, .slice A3 n3 c3] 71)) := (Below.refl _ _).alloc (Nat.le_refl _) _
      have hOC6 := hid_mk (hOC.out.to q5)
      have hru6 := hid_mk (hru.to q5)
      have hB6 : Hid (Below w1.heap.size w1 (w3.alloc (.cells #[.string sx, .slice A3 n3 c3] 71))) := q3.out.alloc q3.out.size _
      have hnew := hid_mk (reads_new w3 #[.string sx, .slice A3 n3 c3] 71 1 2 0 rfl)
      have hbase : w1.heap.size ≤ (w3.alloc (.cells #[.string sx, .slice A3 n3 c3] 71)).heap.size := hB6.out.size
      have k63 : zs.length + 1 ≤ maxLen := by unfold maxLen; omega
      have kby : (zs.length + 1) * 40 ≤ 140737488355328 := by omega
      clear q5 hOC hru
      go_wp2_with (at_builtin; refine wpList_append_any _ rfl (.tmp 27) (.tmp 34) 68 rfl w1.heap.size 71 i0 _ 2 40 Tryd.underlying68 hi0 hz0 hz1 hz2 rfl (by omega) (.slice Ao zs.length co) zs.length _ rfl hOC6.out.1 0 (some ⟨w3.heap.size, 0, none⟩) 1 1 (catC ((sx, (parseF sb.data.toList).1), (A3, n3, c3))) (by simp [Act.eval]) hnew.out (catC_one ((sx, (parseF sb.data.toList).1), (A3, n3, c3))) k63 kby hbase ?_; intro va wa howna hga hat1)
      have hOCa := hid_mk (OwnC.app (z := ((sx, (parseF sb.data.toList).1), (A3, n3, c3))) hOC6.out hru6.out (by dsimp only; omega) hga howna)
      have hBa : Hid (Below w1.heap.size w1 wa) := hB6.out.grown hga hB6.out.size (fun k e => (World.ownsRow.lt hOC6.out.1 _ e).1)
      clear hga howna hat1 hOC6 hru6 hB6 hnew
      go_roundw
      case rel => exact ⟨i + 2, zs ++ [((sx, (parseF sb.data.toList).1), (A3, n3, c3))], by go_num, by omega, (by rw [Hid, List.length_append, List.length_singleton, hzk.out]; omega), hOCa, (by rw [Hid, hTn.out, List.map_append]; simp), hBa⟩
      case measure => simp [intOf]; omega
    · obtain rfl : i = n := by omega
      obtain ⟨Ao, co, rfl, hk3, hk4⟩ := own_slice hOC.out.1
      have hfin : Hid (TL = zs.map (·.1)) := by rw [Hid, hT.out, List.drop_eq_nil_of_le (by rw [hlen.out]; exact Nat.le_refl _)]; simp [tableL]
      have hcs := hid_mk (hOC.out.cats rfl)
      have q1 := hid_mk (after (w := w) hb.out hb1.out).1
      have hzl : zs.length ≤ 10 := by have := hzk.out; omega
      go_wp2
      refine ends_ret hQ (results_tmp rfl _ _ _) rfl ?_
      exact ⟨Ao, zs.length, co, rfl, by rw [hfin.out]; exact hcs.out, hzl, q1.out⟩
set_option maxHeartbeats 1600000 in
theorem Category_any (l : ByteArray) (x : Int) (w : World) (hx0 : -9223372036854775808 ≤ x) (hx1 : x ≤ 9223372036854775807) : Calls Tryd.prog 19 #[.string l, .int .i64 x] w fun e w' => e = .returned (.string (catL (amountOf x) (tableL (rulesL l)))) ∧ Below w.heap.size w w' := by
  obtain ⟨TL, hTL⟩ : ∃ TL, tableL (rulesL l) = TL := ⟨_, rfl⟩
  rw [hTL]
  replace hTL := hid_mk hTL
  obtain ⟨V, hV⟩ : ∃ V, catL (amountOf x) TL = V := ⟨_, rfl⟩
  have hV0 : Hid (V = catL (amountOf x) (TL.drop 0)) := by rw [Hid, List.drop_zero, hV]
  rw [hV]
  replace hV := hid_mk hV
  refine calls_of_wpQ Tryd.func19 rfl ?_
  intro Q hQ
  simp only [Tryd.ntmps19, List.size_toArray, List.length_cons, List.length_nil, Nat.reduceAdd, Nat.reduceSub, Array.replicate_succ, Array.replicate_zero, List.push_toArray, List.append_toArray, List.nil_append, List.cons_append]
  go_wp2_with fail
  refine (Table_any l w).mono ?_
  rw [hTL.out]
  rintro e w1 ⟨A, n, c, rfl, hC, hn, hb1⟩
  replace hC := hid_mk hC
  replace hb1 := hid_mk hb1
  go_wp2_with fail
  go_loopw [10] (fun iv wr => ∃ k : Nat, iv = .int .i64 k ∧ k ≤ n ∧ Hid (V = catL (amountOf x) (TL.drop k)) ∧ Hid (Below w1.heap.size w1 wr)) (fun iv _ => n - (intOf iv).toNat)
  case atStart => exact ⟨0, rfl, Nat.zero_le _, hV0, Below.refl _ _⟩
  case round =>
    clear hV0
    obtain ⟨k, rfl, hk, hVk, hb⟩ := hrel
    have q1 := hid_mk (after (w := w) hb.out hb1.out).1
    by_cases hlt : k < n
    · obtain ⟨b, o, y, v, rfl, hbl, hd, c0, c1, hru, hvn⟩ := (hC.out.to hb.out).at_ hlt
      obtain ⟨nm, r⟩ := y
      obtain ⟨A2, n2, c2⟩ := v
      unfold slV at c1
      dsimp only at *
      have k0 : (0 : Int) ≤ k := by omega
      have k1 : (k : Int) < n := by omega
      have q5 : Below wr.heap.size wr (wr.alloc (.cells #[.string nm, .slice A2 n2 c2] 71)) := (Below.refl _ _).alloc (Nat.le_refl _) _
      have hB5 := hid_mk (after (w := w1) q5 hb.out).1
      have hru5 := hid_mk (hru.to q5)
      have hX := hid_mk (Blk.new wr 71 #[.string nm, .slice A2 n2 c2])
      have x1 := hX.out.cell 1
      clear q5 hru
      cases hp : (ruleOk r && ruleHolds (amountOf x) r)
      · have hVn : Hid (V = catL (amountOf x) (TL.drop (k + 1))) := by rw [Hid, hVk.out, hd.out, catL, hp]; rfl
        replace hp := hid_mk hp
        go_wp2_with fail
        refine (Holds_any r A2 n2 c2 x _ 0 hx0 hx1 hvn hru5.out).mono ?_
        rw [hp.out]
        rintro e w3 ⟨rfl, hb3⟩
        have q3 := hid_mk (after (w := w1) hb3 hB5.out).1
        clear hb3
        go_wp2
        go_roundw
        case rel => exact ⟨k + 1, by go_num, by omega, hVn, q3⟩
        case measure => simp [intOf]; omega
      · have hVn : Hid (V = nm) := by rw [Hid, hVk.out, hd.out, catL, hp]; rfl
        replace hp := hid_mk hp
        go_wp2_with fail
        refine (Holds_any r A2 n2 c2 x _ 0 hx0 hx1 hvn hru5.out).mono ?_
        rw [hp.out]
        rintro e w3 ⟨rfl, hb3⟩
        have q3 := hid_mk (after (w := w1) hb3 hB5.out).1
        have q4 := hid_mk (after (w := w) q3.out hb1.out).1
        have y0 := (hX.out.keep hb3).cell 0
        clear hb3
        go_wp2
        refine ends_ret hQ (results_tmp rfl _ _ _) rfl ?_
        exact ⟨by rw [hVn.out]; rfl, q4.out⟩
    · have hVn : Hid (V = other) := by rw [Hid, hVk.out, List.drop_eq_nil_of_le (by rw [hC.out.len]; omega)]; rfl
      go_wp2
      refine ends_ret hQ (results_tmp rfl _ _ _) rfl ?_
      exact ⟨by rw [hVn.out]; rfl, q1.out⟩
theorem en_one : catL (amountOf 1) (tableL (rulesL ⟨#[101, 110]⟩)) = ⟨#[111, 110, 101]⟩ := by decide +kernel
theorem alive_any (w : World) : Calls Tryd.prog 8 #[] w fun e w' => e = .returned (.bool true) ∧ Below w.heap.size w w' := by
  go_enter Tryd.func8, Tryd.ntmps8
  go_wp2_with (go_at_call 19; refine (Category_any ⟨#[101, 110]⟩ 1 w (by omega) (by omega)).mono ?_; rw [en_one]; rintro e w1 ⟨rfl, hb1⟩)
  go_ret
  exact ⟨rfl, hb1⟩
end Go.Proofs.YtfafinnklniniaaDoor
