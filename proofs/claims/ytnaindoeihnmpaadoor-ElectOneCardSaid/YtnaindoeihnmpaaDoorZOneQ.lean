/-
  WHAT IS PROVED HERE: the play of ElectOne as it lies in memory. No condition.
-/
import Derived.Test.YtnaindoeihnmpaaDoorZOneP
import Derived.Test.YtnaindoeihnmpaaDoorZKr
namespace Go.Proofs.YtnaindoeihnmpaaDoor
open Go.RowKit Go.Maps

theorem zeroBl (w : World) : (zeroValue 4).run Tryd.prog w = .ok (.bool false) w := by kernel_rfl
theorem zeroNd (w : World) : (zeroValue 30).run Tryd.prog w = .ok (.agg #[.int .i64 0, .int .i64 0, .int .i64 0, .int .i64 0, .int .i64 0, .slice none 0 0, .string ⟨#[]⟩, .slice none 0 0, .int .i64 0, .int .i64 0, .int .i64 0, .int .i64 0, .slice none 0 0, .slice none 0 0]) w := by kernel_rfl
/-- the play: the nodes' map, the map of who won, the row of messages -/
structure Play (w0 : World) (V : List Int) (T one two : Int) (gm gw : Nat) (wr : World) (s : Value) (b n9 : Nat) (f : Int → Nd) (won : Int → Bool) (ms : List Ms) (F G : Int → Option Value) : Prop where
  own : wr.ownsRow w0.heap.size 32 11 s n9 (mgsL (pairM ms))
  mF : MapI Tryd.prog wr 3 gm b F
  mG : MapI Tryd.prog wr 3 gw b G
  nd : ∀ v ∈ V, ∃ a, F v = some (nodeV (f v) a) ∧ NdOk wr w0.heap.size (f v) a
  wn : ∀ c, c = one ∨ c = two → (G c).getD (.bool false) = .bool (won c)
  ask : ∀ m ∈ ms, AskB V T one two m
/-- how the play begins: who stood up so far -/
def Beg (V : List Int) (T one two : Int) (k : Nat) (f : Int → Nd) (won : Int → Bool) : Prop :=
  (k = 0 → f = bareN V (T - 1)) ∧ (k = 1 → f = updN (bareN V (T - 1)) one (upN (bareN V (T - 1) one) 10) ∧ won one = standW (bareN V (T - 1) one)) ∧
    (k = 2 → f = updN (updN (bareN V (T - 1)) one (upN (bareN V (T - 1) one) 10)) two (upN (bareN V (T - 1) two) 10) ∧ won one = standW (bareN V (T - 1) one) ∧ won two = standW (bareN V (T - 1) two))
theorem beg_start (V : List Int) (T one two : Int) (won : Int → Bool) : Beg V T one two 0 (bareN V (T - 1)) won := ⟨fun _ => rfl, fun e => absurd e (by decide), fun e => absurd e (by decide)⟩
theorem beg_at {V : List Int} {T one two : Int} {k : Nat} {f : Int → Nd} {won : Int → Bool} {x : Int} (h : Beg V T one two k f won) (h12 : one ≠ two) (hk : k < 2) (hx : [one, two].drop k = x :: [one, two].drop (k + 1)) :
    (x = one ∨ x = two) ∧ f x = bareN V (T - 1) x ∧ ∀ b, b = standW (bareN V (T - 1) x) → Beg V T one two (k + 1) (updN f x (upN (bareN V (T - 1) x) 10)) (updB won x b) := by
  obtain ⟨h0, h1, _⟩ := h
  rcases Nat.lt_or_ge k 1 with hk1 | hk1
  · obtain rfl : k = 0 := by omega
    obtain rfl : one = x := by simpa using hx
    have := h0 rfl
    subst this
    refine ⟨.inl rfl, rfl, fun b hb => ⟨fun e => absurd e (by omega), fun _ => ⟨rfl, by simp [updB, hb]⟩, fun e => absurd e (by omega)⟩⟩
  · obtain rfl : k = 1 := by omega
    obtain rfl : two = x := by simpa using hx
    obtain ⟨e1, e2⟩ := h1 rfl
    subst e1
    refine ⟨.inr rfl, by simp [updN, Ne.symm h12], fun b hb => ⟨fun e => absurd e (by omega), fun e => absurd e (by omega), fun _ => ⟨rfl, ?_, ?_⟩⟩⟩
    · simp [updB, h12, e2]
    · simp [updB, hb]
theorem beg_inv {V : List Int} (hV : rightL V = true) {T one two : Int} (hT : 1 ≤ T ∧ T ≤ 1073741824) (h1 : one ∈ V) (h2 : two ∈ V) (h12 : one ≠ two) {f : Int → Nd} {won : Int → Bool} (h : Beg V T one two 2 f won) : InvP V T one two f won := by
  obtain ⟨e, w1, w2⟩ := h.2.2 rfl
  rw [e]
  exact inv_start hV hT h1 h2 h12 w1 w2
theorem up_bare (V : List Int) (T x : Int) : upN (bareN V (T - 1) x) 10 = ⟨x, ⟨T, x, ⟨0, 0, []⟩, ⟨#[]⟩, V⟩, 1, 0, 10, 0, [x], []⟩ := by
  unfold upN bareN
  have : T - 1 + 1 = T := by omega
  rw [this]
  rfl
theorem bare_ok {w : World} {VA : Option Addr} {n c : Nat} {V : List Int} (h : Ints w w.heap.size VA n V) (hnc : n ≤ c) (hcb : c * 8 ≤ 140737488351232) (T v : Int) : NdOk w w.heap.size (bareN V T v) ⟨⟨none, 0, 0⟩, ⟨VA, n, c⟩, ⟨none, 0, 0⟩, ⟨none, 0, 0⟩⟩ :=
  ⟨Reads.none_, Nat.le_refl _, by dsimp only; omega, h, hnc, by dsimp only; omega, by show 0 ≤ _; omega, Reads.none_, Nat.le_refl _, by dsimp only; omega, Reads.none_, Nat.le_refl _, by dsimp only; omega⟩
def Laid (V : List Int) (T : Int) (a : NdA) (k : Nat) (F : Int → Option Value) : Prop := ∀ v ∈ V.take k, F v = some (nodeV (bareN V T v) a)
/-- one more node is laid -/
theorem lay_step {F : Int → Option Value} {V : List Int} {k : Nat} {x T : Int} {a : NdA} (hd : V.drop k = x :: V.drop (k + 1)) (h : Laid V T a k F) : Laid V T a (k + 1) (updI F x (nodeV (bareN V T x) a)) := by
  intro v hv
  rw [take_snoc hd, List.mem_append, List.mem_singleton] at hv
  unfold updI
  by_cases e : v = x
  · rw [if_pos e, e]
  · rw [if_neg e]
    rcases hv with hv | hv
    · exact h v hv
    · exact absurd hv e
/-- a step that changes one node -/
theorem play_nd {w0 wr w' : World} {V : List Int} {f : Int → Nd} {F : Int → Option Value} {x : Int} {N : Nd} {a : NdA} (h : ∀ v ∈ V, ∃ a, F v = some (nodeV (f v) a) ∧ NdOk wr w0.heap.size (f v) a) (hk : KR wr w' w0.heap.size) (hN : NdOk w' w0.heap.size N a) :
    ∀ v ∈ V, ∃ a', updI F x (nodeV N a) v = some (nodeV (updN f x N v) a') ∧ NdOk w' w0.heap.size (updN f x N v) a' := by
  intro v hv
  unfold updI updN
  by_cases e : v = x
  · rw [if_pos e, if_pos e]
    exact ⟨a, rfl, hN⟩
  · rw [if_neg e, if_neg e]
    obtain ⟨a', h1, h2⟩ := h v hv
    exact ⟨a', h1, h2.kr hk⟩
theorem play_wn {one two x : Int} {G : Int → Option Value} {won : Int → Bool} {b : Bool} (h : ∀ c, c = one ∨ c = two → (G c).getD (.bool false) = .bool (won c)) : ∀ c, c = one ∨ c = two → (updI G x (.bool b) c).getD (.bool false) = .bool (updB won x b c) := by
  intro c hc
  unfold updI updB
  by_cases e : c = x
  · rw [if_pos e, if_pos e]; rfl
  · rw [if_neg e, if_neg e]; exact h c hc
/-- the place to swap with -/
theorem pick_idx {k n : Nat} (o : Int) (hk : k < n) (hn : n ≤ 100) : ∃ j : Nat, wrap64 ((k : Int) + (wrap64 (wrap64 (o.tmod ((n : Int) - k) + n) - k)).tmod ((n : Int) - k)) = (j : Int) ∧ j < n := by
  obtain ⟨d, hd⟩ : ∃ d : Int, (n : Int) - k = d := ⟨_, rfl⟩
  rw [hd]
  have hd0 : 0 < d := by omega
  have a1 := Int.tmod_lt_of_pos o hd0
  have a2 := Int.lt_tmod_of_pos o hd0
  obtain ⟨r, hr⟩ : ∃ r, o.tmod d = r := ⟨_, rfl⟩
  rw [hr] at a1 a2 ⊢
  rw [IntWalk.wrap64_in (r + n) (by omega), IntWalk.wrap64_in (r + n - k) (by omega)]
  have b1 := Int.tmod_lt_of_pos (r + n - k) hd0
  have b2 := Int.tmod_nonneg d (show 0 ≤ r + n - k by omega)
  obtain ⟨q, hq⟩ : ∃ q, (r + n - k).tmod d = q := ⟨_, rfl⟩
  rw [hq] at b1 b2 ⊢
  rw [IntWalk.wrap64_in ((k : Int) + q) (by omega)]
  exact ⟨(k + q).toNat, by omega, by omega⟩
theorem mgs_appM {l l' : List Ms} : mgsL (pairM l) ++ mgsL (l'.map fun M => (M, nilMA)) = mgsL (pairM (l ++ l')) := by
  unfold pairM mgsL
  rw [List.map_append, List.flatMap_append]
end Go.Proofs.YtnaindoeihnmpaaDoor
