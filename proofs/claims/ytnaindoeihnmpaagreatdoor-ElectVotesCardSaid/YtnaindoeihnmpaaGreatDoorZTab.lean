/-
  WHAT IS PROVED HERE: a number's text, as strconv's Itoa and FormatInt hand it back; sums of texts. Condition: the variable internal/strconv.uint64pow10 holds the powers of ten.
-/
import Derived.Test.YtnaindoeihnmpaaGreatDoorZGJrn
import Derived.Test.YtnaindoeihnmpaaGreatDoorZShelf
import Derived.Lib.AppendIntMem
import Derived.Laws.Concat
namespace Go.Proofs.YtnaindoeihnmpaaGreatDoor
open Go.RowKit

/-- the library's table stands, now and behind whatever turns nothing below B -/
def TabB (B : Nat) (w : World) : Prop := ∀ w', Below B w w' → Lib.TabIs Tryz.prog w' "internal/strconv.uint64pow10" .u64 Lib.pow10Tab
/-- the library's table stands, now and behind any call that turns nothing -/
def Tab (w : World) : Prop := TabB w.heap.size w
theorem TabB.to {B : Nat} {w w' : World} (h : TabB B w) (hb : Below B w w') : TabB B w' := fun x hx => h x (hb.trans hx)
theorem TabB.more {B B' : Nat} {w : World} (h : TabB B w) (hB : B ≤ B') : TabB B' w := fun x hx => h x (hx.mono hB)
theorem Tab.to {w w' : World} (h : Tab w) (hb : Below w.heap.size w w') : Tab w' := fun x hx => h x (hb.trans (hx.mono hb.size))
theorem Tab.bel {w w' : World} (h : Tab w) (hb : Below w.heap.size w w') : TabB w.heap.size w' := fun x hx => h x (hb.trans hx)
theorem tab_of {w : World} (h : Lib.TabIs Tryz.prog w "internal/strconv.uint64pow10" .u64 Lib.pow10Tab) : Tab w := by
  intro w' hb
  unfold Lib.TabIs World.var? at *
  cases hg : (Tryz.prog.globalNamed "internal/strconv.uint64pow10") with
  | none => rw [hg] at h; cases h
  | some g =>
    rw [hg] at h
    simp only [Option.bind_some] at h ⊢
    have hlt : g < w.heap.size := by
      rcases Nat.lt_or_ge g w.heap.size with hlt | hge
      · exact hlt
      · rw [Array.getElem?_eq_none hge] at h; cases h
    rw [hb.block g hlt]
    exact h
def itB (n : Int) : ByteArray := ⟨(Lib.itoa n).toArray⟩
theorem ba_size (l : List UInt8) : (⟨l.toArray⟩ : ByteArray).size = l.length := by simp [ByteArray.size]
theorem it_size (n : Int) : (itB n).size = (Lib.itoa n).length := ba_size _
theorem cat_to {a b c : ByteArray} (he : a ++ b = c) (h : a.size + b.size ≤ 9223372036854775807) : ∀ w : World, (Op.stringOp .add a b).run Tryz.prog w = .ok (.string c) w := fun w => by rw [← he]; exact run_string_add_sum w a b h
theorem Itoa_any (n : Int) (w : World) (h0 : 0 ≤ n) (h1 : n ≤ 1073741824) (ht : Lib.TabIs Tryz.prog w "internal/strconv.uint64pow10" .u64 Lib.pow10Tab) : Calls Tryz.prog 89 #[.int .i64 n] w fun e w' => e = .returned (.string (itB n)) ∧ Below w.heap.size w w' := by
  refine (Tryz.strconv_Itoa n (by omega) (by omega) w ht).mono ?_
  rintro e w' ⟨rfl, k, os, rfl⟩
  exact ⟨rfl, Lib.below_grow _ w (Nat.le_refl _) k os⟩
theorem FormatInt_any (n : Int) (w : World) (h0 : 0 ≤ n) (h1 : n ≤ 1073741824) (ht : Lib.TabIs Tryz.prog w "internal/strconv.uint64pow10" .u64 Lib.pow10Tab) : Calls Tryz.prog 88 #[.int .i64 n, .int .i64 10] w fun e w' => e = .returned (.string (itB n)) ∧ Below w.heap.size w w' := by
  refine (Tryz.strconv_FormatInt_10 n (by omega) (by omega) w ht).mono ?_
  rintro e w' ⟨rfl, k, os, rfl⟩
  exact ⟨rfl, Lib.below_grow _ w (Nat.le_refl _) k os⟩
end Go.Proofs.YtnaindoeihnmpaaGreatDoor
