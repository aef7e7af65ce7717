/-
  WHAT IS PROVED HERE: what an argument of type []string that reads as data gives the walks: its strings, within the form's reach. No condition.
-/
import Derived.Test.YtnaindoeihnmpaaGreatDoorZGOpn
import Derived.Test.YtnaindoeihnmpaaGreatDoorZOwn
import Derived.SliceStrings
namespace Go.Proofs.YtnaindoeihnmpaaGreatDoor
open Go.ChangeShapes Go.WideShapes Go.ChangeAt Go.RowKit

/-- A slice of strings. -/
def vstr (s : ByteArray) : Value := .string s
def Strs (w : World) (B : Nat) (A : Option Addr) (n : Nat) (ss : List ByteArray) : Prop := Reads w B 9 1 A n (ss.map vstr)
section
variable {w w' : World} {B B' n : Nat} {A : Option Addr} {ss : List ByteArray}
theorem Strs.len (h : Strs w B A n ss) : ss.length = n := by simpa using h.1
theorem Strs.at_ {k : Nat} (h : Strs w B A n ss) (hk : k < n) :
    ∃ b o s, A = some ⟨b, o, none⟩ ∧ b < w.heap.size ∧ Hid (ss.drop k = s :: ss.drop (k + 1)) ∧ ss[k]? = some s ∧ w.cell? ⟨b, o + k, none⟩ = some (.string s) := by
  obtain ⟨b, o, e, hb, _, hc⟩ := h.2 (by omega)
  have hl : k < ss.length := by have := h.len; omega
  exact ⟨b, o, ss[k], e, hb, List.drop_eq_getElem_cons hl, List.getElem?_eq_getElem hl, hc k _ (by simp [hl, vstr])⟩
theorem Strs.to (h : Strs w B A n ss) (hb : Below w.heap.size w w') : Strs w' B A n ss := Reads.to h hb
theorem Strs.end_ {k : Nat} (h : Strs w B A n ss) (hk : k ≤ n) (hlt : ¬ k < n) : ss.drop k = [] := by
  have := h.len
  exact List.drop_eq_nil_of_le (by omega)
theorem Strs.take {k : Nat} (h : Strs w B A n ss) (hk : k ≤ n) : Strs w B A k (ss.take k) := by
  have := Reads.take (k := k) h hk
  rw [Nat.mul_one] at this
  unfold Strs
  rw [List.map_take]
  exact this
end
section
variable {H : Type} {enc : TypeId × Value → H} {P : Program} {W : World} {base : Nat} {t e : TypeId} {v : Value} {d : DataW H} {p : List MemPlace}
theorem weights_strs (P : Program) (e : TypeId) : ∀ (l : List ByteArray) (s : ByteArray), s ∈ l → s.data.toList.length ∈ DataW.weightsAll P e (strs (H := H) l)
  | [], s, h => by cases h
  | a :: r, s, h => by
    have ih := weights_strs P e r s
    show _ ∈ DataW.weights P e _ ++ DataW.weightsAll P e (strs r)
    rcases List.mem_cons.1 h with rfl | h
    · exact List.mem_append_left _ (by simp [DataW.weights])
    · exact List.mem_append_right _ (ih h)
theorem open_strsl (ht : P.underlying t = some (.slice e)) (he : P.underlying e = some .string) (hE : e = 9) (hc : P.cellsOf e = 1) (hby : P.bytesOf e = 16)
    (hok : Value.okWide P W .any base t v) (h : DataW.Trod enc P W 0 (fun _ => true) true t v d p) (hw : ∀ n ∈ d.weights P t, n ≤ reachBytes) :
    ∃ a len cap ss, v = .slice a len cap ∧ Strs W W.heap.size a len ss ∧ len ≤ cap ∧ cap * 16 ≤ 140737488351232 ∧ ∀ s ∈ ss, s.size ≤ 140737488351232 := by
  subst hE
  obtain ⟨a, len, cap, rfl⟩ := okWide_slice ht hok
  obtain ⟨fuel, hf⟩ := h
  rcases open_strings ht he hc hf with ⟨hcs, _⟩ | ⟨x, l, c, ss, hcs, _, hl, hm, hz, hx, hcell, hsz⟩
  · simp [Value.cells] at hcs
    obtain ⟨rfl, rfl, rfl⟩ := hcs
    exact ⟨none, 0, 0, [], rfl, Reads.none_, Nat.le_refl _, by omega, by simp⟩
  · simp [Value.cells] at hcs
    obtain ⟨rfl, rfl, rfl⟩ := hcs
    simp only [if_true] at hz
    have hlen : (ss.take len).length = len := by simp; omega
    have hd : d = .slice (strs (ss.take len)) (strs (ss.drop len)) := congrArg Prod.fst hx
    refine ⟨some x, len, cap, ss.take len, rfl, ⟨by simp; omega, fun hn => ?_⟩, hl, ?_, ?_⟩
    · have hx2 : ∃ b o, x = ⟨b, o, none⟩ ∧ ∀ i, i < ss.length → W.cell? ⟨b, o + i, none⟩ = some (.string (ss.getD i ByteArray.empty)) := by
        have h0 := hcell 0 (by omega)
        obtain ⟨b, o, r⟩ := x
        have hspot : r = none := by simpa [Addr.add] using World.cell?_spot h0
        subst hspot
        exact ⟨b, o, rfl, fun i hi => by have := hcell i hi; rwa [add_plain] at this⟩
      obtain ⟨b, o, rfl, hc2⟩ := hx2
      have hblt : b < W.heap.size := by have := cell_lt (hc2 0 (by omega)); exact this
      refine ⟨b, o, rfl, hblt, .inl hblt, ?_⟩
      intro j u hu
      have hj : j < len := by
        rcases Nat.lt_or_ge j len with h | h
        · exact h
        · rw [List.getElem?_eq_none (by simp; omega)] at hu; cases hu
      rw [hc2 j (by omega)]
      rw [List.getElem?_map, List.getElem?_take_of_lt hj, List.getElem?_eq_getElem (by omega)] at hu
      simp only [Option.map_some, Option.some.injEq] at hu
      rw [← hu]; simp [List.getElem?_eq_getElem (show j < ss.length by omega), vstr]
    · have := hw ((ss.take len).length * 16 + (ss.drop len).length * 16) (by
        rw [hd]; simp only [DataW.weights, ht, hby, strs, List.length_map, List.mem_cons]; left; omega)
      simp only [List.length_take, List.length_drop, reachBytes] at this
      omega
    · intro s hs
      have := hw s.data.toList.length (by
        rw [hd]; simp only [DataW.weights, ht, List.mem_cons, List.mem_append]
        right; left
        exact weights_strs P _ _ s hs)
      simpa [reachBytes] using this
end
end Go.Proofs.YtnaindoeihnmpaaGreatDoor
