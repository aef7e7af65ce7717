/-
  WHAT IS PROVED HERE: laws on append onto a row of the call's own (the source nil, empty or not), for walks; what a new row holds. No condition beyond the sizes that the laws name.
  WHAT IS PROVED HERE: peers as data (three numbers each); what the reference's has hands back. Condition: the slice is of at most 2^43 elements.
  WHAT IS PROVED HERE: nodes and messages as data, and how they lie in memory. No condition.
  WHAT IS PROVED HERE: which state may be, but for its bytes: what wal.shaped and the reference's Log and Voters hand back. Conditions: the slices are of at most 2^47 elements.
  WHAT IS PROVED HERE: slices of messages as data, and how they lie in memory. No condition.
  WHAT IS PROVED HERE: rows of nodes as data, and how they lie in memory. No condition.
-/
import Derived.Test.YtncdjmpdbinanaaGreatDoorZGJrn
import Derived.Maps.AppendAt
import Derived.Test.YtncdjmpdbinanaaGreatDoorZGTab
namespace Go.Proofs.YtncdjmpdbinanaaGreatDoor
open Go.RowKit

section
variable {P : Program} (w : World)

theorem run_append_of_nil (base : Nat) (t ty e : TypeId) (i : TypeInfo) (size : Nat) (ht : P.underlying t = some (.slice e)) (hi : P.info? e = some i)
    (v : Value) (n : Nat) (xs : List Value) (hown : w.ownsRow base e size v n xs) (c : Nat) : (Builtin.append_ #[t, t] ty #[v, .slice none 0 c]).run P w = .ok v w := by
  rcases hown.2 with ⟨rfl, rfl⟩ | ⟨g, cap, cur, rfl, _, _, hnc, _⟩
  · simp [Builtin.append_, run_underlying ht, sizeOf, typeInfo, hi, Builtin.lenOf, Builtin.firstCells]
  · simp [Builtin.append_, run_underlying ht, sizeOf, typeInfo, hi, Builtin.lenOf, Builtin.firstCells, hnc, storeCells]

theorem run_append_any (base : Nat) (t ty e : TypeId) (i : TypeInfo) (z : Value) (size bytes : Nat) (ht : P.underlying t = some (.slice e)) (hi : P.info? e = some i) (hz : i.zero = some z)
    (hsize : i.size = size) (hby : i.bytes = bytes) (hzs : z.cells.size = size) (hsz : 0 < size)
    (v : Value) (n : Nat) (xs : List Value) (hown : w.ownsRow base e size v n xs)
    (B : Nat) (A : Option Addr) (m c : Nat) (news : List Value) (hr : Reads w B e size A m news) (h1 : ∀ u ∈ news, u.oneCell' = true)
    (h63 : n + m ≤ maxLen) (hbytes : (n + m) * bytes ≤ 140737488355328) (hbase : base ≤ w.heap.size) :
    ∃ v' w', (Builtin.append_ #[t, t] ty #[v, .slice A m c]).run P w = .ok v' w' ∧ w'.ownsRow base e size v' (n + m) (xs ++ news) ∧ w.grownBy w' v.ownBlock ∧
      (v'.ownBlock = v.ownBlock ∨ v'.ownBlock = some w.heap.size) := by
  rcases A with _ | ad
  · have hm : m = 0 := by
      rcases Nat.eq_zero_or_pos m with h0 | h0
      · exact h0
      · obtain ⟨_, _, h, _⟩ := hr.2 h0
        cases h
    subst hm
    have hn : news = [] := List.eq_nil_of_length_eq_zero (by simpa using hr.1)
    subst hn
    exact ⟨v, w, run_append_of_nil w base t ty e i size ht hi v n xs hown c, by simpa using hown, World.grownBy.refl w _, .inl rfl⟩
  · have hcells : ∀ j u, news[j]? = some u → w.cell? (ad.add j) = some u := by
      intro j u hu
      rcases Nat.eq_zero_or_pos m with h0 | h0
      · subst h0
        have hn : news = [] := List.eq_nil_of_length_eq_zero (by simpa using hr.1)
        subst hn
        simp at hu
      · obtain ⟨b, o, h, _, _, hc⟩ := hr.2 h0
        injection h with h
        subst h
        rw [add_plain]
        exact hc j u hu
    obtain ⟨v', w', hrun, h2, h3, _, h5⟩ := run_append_own_at (P := P) w base t ty e i z size bytes ht hi hz hsize hby hzs hsz v n xs hown ad m c news hr.1 hcells h1 h63 hbytes hbase
    exact ⟨v', w', hrun, h2, h3, h5⟩

theorem wp_append_any {o : Oper} {a : Act} {K : Act → World → Prop} {Q : Exit → Act → World → Prop} (s x : Operand) (t : TypeId)
    (ho : o.op = .call { callee := .builtin .append, args := #[s, x], argTypes := #[t, t] })
    (base : Nat) (e : TypeId) (i : TypeInfo) (z : Value) (size bytes : Nat) (ht : P.underlying t = some (.slice e)) (hi : P.info? e = some i) (hz : i.zero = some z)
    (hsize : i.size = size) (hby : i.bytes = bytes) (hzs : z.cells.size = size) (hsz : 0 < size)
    (v : Value) (n : Nat) (xs : List Value) (hs : a.eval s = v) (hown : w.ownsRow base e size v n xs)
    (B : Nat) (A : Option Addr) (m c : Nat) (news : List Value) (hx : a.eval x = .slice A m c) (hr : Reads w B e size A m news) (h1 : ∀ u ∈ news, u.oneCell' = true)
    (h63 : n + m ≤ maxLen) (hbytes : (n + m) * bytes ≤ 140737488355328) (hbase : base ≤ w.heap.size)
    (h : ∀ v' w', w'.ownsRow base e size v' (n + m) (xs ++ news) → w.grownBy w' v.ownBlock → (v'.ownBlock = v.ownBlock ∨ v'.ownBlock = some w.heap.size) → K (a.put o.dst v') w') : o.wp P a w K Q := by
  obtain ⟨v', w', hrun, h2, h3, h4⟩ := run_append_any (P := P) w base t o.type e i z size bytes ht hi hz hsize hby hzs hsz v n xs hown B A m c news hr h1 h63 hbytes hbase
  unfold Oper.wp execOp
  simp only [ho, resolve, invoke, builtin, Sem.run_bind, Sem.run_pure, Result.andThen_ok, List.map_toArray, List.map_cons, List.map_nil, hs, hx, hrun]
  exact h v' w' h2 h3 h4

theorem wpList_append_any {ops : Array Oper} {rest : List Oper} {o : Oper} {a : Act} {Q : Exit → Act → World → Prop} (hgd : o.guard = none) (s x : Operand) (t : TypeId)
    (ho : o.op = .call { callee := .builtin .append, args := #[s, x], argTypes := #[t, t] })
    (base : Nat) (e : TypeId) (i : TypeInfo) (z : Value) (size bytes : Nat) (ht : P.underlying t = some (.slice e)) (hi : P.info? e = some i) (hz : i.zero = some z)
    (hsize : i.size = size) (hby : i.bytes = bytes) (hzs : z.cells.size = size) (hsz : 0 < size)
    (v : Value) (n : Nat) (xs : List Value) (hs : a.eval s = v) (hown : w.ownsRow base e size v n xs)
    (B : Nat) (A : Option Addr) (m c : Nat) (news : List Value) (hx : a.eval x = .slice A m c) (hr : Reads w B e size A m news) (h1 : ∀ u ∈ news, u.oneCell' = true)
    (h63 : n + m ≤ maxLen) (hbytes : (n + m) * bytes ≤ 140737488355328) (hbase : base ≤ w.heap.size)
    (h : ∀ v' w', w'.ownsRow base e size v' (n + m) (xs ++ news) → w.grownBy w' v.ownBlock → (v'.ownBlock = v.ownBlock ∨ v'.ownBlock = some w.heap.size) → wpList P ops Q rest (a.put o.dst v') w') : wpList P ops Q (o :: rest) a w :=
  wpList_plain hgd fun _ hK => wp_append_any w s x t ho base e i z size bytes ht hi hz hsize hby hzs hsz v n xs hs hown B A m c news hx hr h1 h63 hbytes hbase fun v' w' h2 h3 h4 => hK _ _ (h v' w' h2 h3 h4)

theorem step_append_any {ops : Array Oper} {o : Oper} {a : Act} {K : Act → World → Prop} {Q : Exit → Act → World → Prop} {E : Prop} (hgd : o.guard = none) (s x : Operand) (t : TypeId)
    (ho : o.op = .call { callee := .builtin .append, args := #[s, x], argTypes := #[t, t] })
    (base : Nat) (e : TypeId) (i : TypeInfo) (z : Value) (size bytes : Nat) (ht : P.underlying t = some (.slice e)) (hi : P.info? e = some i) (hz : i.zero = some z)
    (hsize : i.size = size) (hby : i.bytes = bytes) (hzs : z.cells.size = size) (hsz : 0 < size)
    (v : Value) (n : Nat) (xs : List Value) (hs : a.eval s = v) (hown : w.ownsRow base e size v n xs)
    (B : Nat) (A : Option Addr) (m c : Nat) (news : List Value) (hx : a.eval x = .slice A m c) (hr : Reads w B e size A m news) (h1 : ∀ u ∈ news, u.oneCell' = true)
    (h63 : n + m ≤ maxLen) (hbytes : (n + m) * bytes ≤ 140737488355328) (hbase : base ≤ w.heap.size)
    (h : ∀ v' w', w'.ownsRow base e size v' (n + m) (xs ++ news) → w.grownBy w' v.ownBlock → (v'.ownBlock = v.ownBlock ∨ v'.ownBlock = some w.heap.size) → K (a.put o.dst v') w') :
    if Region.wanted o (yielded ops a.tmps) = true then Oper.wp P o a w K Q else E := by
  have hw : Region.wanted o (yielded ops a.tmps) = true := by simp [Region.wanted, hgd]
  rw [if_pos hw]
  exact wp_append_any w s x t ho base e i z size bytes ht hi hz hsize hby hzs hsz v n xs hs hown B A m c news hx hr h1 h63 hbytes hbase h
end

section
variable {w w' : World} {base e size n g cap : Nat} {v : Value} {xs : List Value}
/-- a row of the call's own, read -/
theorem reads_of_own {A : Option Addr} {B c : Nat} (h : w.ownsRow base e size (.slice A n c) n xs) : Reads w B e size A n xs := Reads.of_own h
theorem own_slice (h : w.ownsRow base e size v n xs) : ∃ A c, v = .slice A n c ∧ n ≤ c ∧ c ≤ maxLen := by
  rcases h.2 with ⟨rfl, rfl⟩ | ⟨g, cap, cur, rfl, _, _, h1, h2, _⟩
  · exact ⟨none, 0, rfl, Nat.le_refl _, by unfold maxLen; omega⟩
  · exact ⟨_, cap, rfl, h1, h2⟩
theorem grown_below {W w w' : World} {row : Option Nat} (h : Below W.heap.size W w) (hg : w.grownBy w' row) (hr : ∀ k, row = some k → W.heap.size ≤ k) : Below W.heap.size W w' := h.grown hg h.size hr
end

/-! ### cuts of a slice, under one name -/
/-- where 's[k:]' begins -/
def cutA (A : Option Addr) (cap k size : Nat) : Option Addr := if cap = k then A else A.map (·.add (k * size))
theorem Reads.cutA {w : World} {B size n : Nat} {e : TypeId} {A : Option Addr} {xs : List Value} (h : Reads w B e size A n xs) {k cap : Nat} (hk : k ≤ n) (hc : n ≤ cap) : Reads w B e size (cutA A cap k size) (n - k) (xs.drop (k * size)) := h.cut hk hc
theorem Reads.take {w : World} {B size n : Nat} {e : TypeId} {A : Option Addr} {xs : List Value} (h : Reads w B e size A n xs) {k : Nat} (hk : k ≤ n) : Reads w B e size A k (xs.take (k * size)) := by
  refine ⟨by rw [List.length_take, h.1]; exact Nat.min_eq_left (Nat.mul_le_mul_right _ hk), fun hn => ?_⟩
  obtain ⟨b, o, rfl, hb, ht, hcell⟩ := h.2 (by omega)
  refine ⟨b, o, rfl, hb, ht, fun j u hu => hcell j u ?_⟩
  rw [List.getElem?_take] at hu
  split at hu
  · exact hu
  · cases hu

section
variable {P : Program} (w : World)
theorem run_slice_from (t e : TypeId) (ht : P.underlying t = some (.slice e)) (i : TypeInfo) (hi : P.info? e = some i) (size : Nat) (hs : i.size = size) (A : Option Addr) (n cap : Nat) (x : Int) (h0 : 0 ≤ x) (h1 : x ≤ n) :
    (Instr.slice t (.slice A n cap) (some (.int .i64 x)) none none).run P w = .ok (.slice (cutA A cap x.toNat size) (n - x.toNat) (cap - x.toNat)) w := by
  subst hs
  have h2 : x.toNat ≤ n := by omega
  unfold cutA
  simp [Instr.slice, Instr.sliceBounds, run_underlying ht, sizeOf, typeInfo, hi, go_sem, h0, h1]
theorem run_slice_upto (t e : TypeId) (ht : P.underlying t = some (.slice e)) (i : TypeInfo) (hi : P.info? e = some i) (A : Option Addr) (n cap : Nat) (x : Int) (h0 : 0 ≤ x) (h1 : x ≤ cap) :
    (Instr.slice t (.slice A n cap) none (some (.int .i64 x)) none).run P w = .ok (.slice A x.toNat cap) w := by
  simp [Instr.slice, Instr.sliceBounds, run_underlying ht, sizeOf, typeInfo, hi, go_sem, h0, h1]
end
theorem reads_new (w : World) (cs : Array Value) (t : TypeId) (n size B : Nat) (hl : cs.size = n * size) : Reads (w.alloc (.cells cs t)) B t size (some ⟨w.heap.size, 0, none⟩) n cs.toList := by
  refine ⟨by simpa using hl, fun _ => ⟨w.heap.size, 0, rfl, by simp, .inr ⟨cs, _, heap_alloc_new w _⟩, fun j u hu => ?_⟩⟩
  rw [Nat.zero_add, cell_of_row _ _ j _ t (0, 0) (heap_alloc_new w _)]
  simpa using hu
theorem blk3f {w : World} {g : Nat} {t : TypeId} {a b c : Value} (h : Blk w g t #[a, b, c]) :
    g < w.heap.size ∧ w.cell? ⟨g, 0, none⟩ = some a ∧ w.cell? ⟨g, 1, none⟩ = some b ∧ w.cell? ⟨g, 2, none⟩ = some c ∧ w.frozen? ⟨g, 0, none⟩ = false ∧ w.frozen? ⟨g, 1, none⟩ = false ∧ w.frozen? ⟨g, 2, none⟩ = false :=
  ⟨h.lt, h.cell 0, h.cell 1, h.cell 2, h.frozen 0, h.frozen 1, h.frozen 2⟩
/-- three cells stored into a box of the call's own -/
def set3 (w : World) (g : Nat) (a b c : Value) : World := ((w.setCell ⟨g, 0, none⟩ a).setCell ⟨g, 1, none⟩ b).setCell ⟨g, 2, none⟩ c
theorem set3_blk {w : World} {g : Nat} {t : TypeId} {a b c : Value} (h : Blk w g t #[a, b, c]) (a' b' c' : Value) : Blk (set3 w g a' b' c') g t #[a', b', c'] := ((h.set_ 0 a').set_ 1 b').set_ 2 c'
theorem set3_reads {w : World} {g : Nat} {t : TypeId} {a b c : Value} (h : Blk w g t #[a, b, c]) (a' b' c' : Value) {B : Nat} (hg : B ≤ g) {e : TypeId} (hne : e ≠ t) {size n : Nat} {A : Option Addr} {xs : List Value} (hr : Reads w B e size A n xs) :
    Reads (set3 w g a' b' c') B e size A n xs := ((hr.far h hg hne 0 a').far (h.set_ 0 a') hg hne 1 b').far ((h.set_ 0 a').set_ 1 b') hg hne 2 c'
theorem set3_below {w W : World} {g : Nat} (a' b' c' : Value) (h : Below W.heap.size W w) (hg : W.heap.size ≤ g) : Below W.heap.size W (set3 w g a' b' c') :=
  ((h.setCell (p := ⟨g, 0, none⟩) hg _).setCell (p := ⟨g, 1, none⟩) hg _).setCell (p := ⟨g, 2, none⟩) hg _
theorem own_ne {w : World} {base e size n : Nat} {v : Value} {xs : List Value} {g : Nat} {t : TypeId} {cs : Array Value} (h : w.ownsRow base e size v n xs) (hg : Blk w g t cs) (hne : e ≠ t := by decide) : some g ≠ v.ownBlock := by
  rcases h.2 with ⟨rfl, _⟩ | ⟨g', cap, cur, rfl, _, hh, _⟩
  · simp [Value.ownBlock]
  · intro he
    have : g = g' := by simpa [Value.ownBlock] using he
    subst this
    exact Blk.ne_ (t := e) hh hg hne rfl
theorem own_far {w : World} {base e size n : Nat} {v : Value} {xs : List Value} {g : Nat} {t : TypeId} {cs : Array Value} (h : w.ownsRow base e size v n xs) (hg : Blk w g t cs) (hne : e ≠ t) (i : Nat) (u : Value) : (w.setCell ⟨g, i, none⟩ u).ownsRow base e size v n xs := by
  obtain ⟨h1, h2⟩ := h
  refine ⟨h1, ?_⟩
  rcases h2 with h2 | ⟨g', cap, cur, rfl, hb, hh, r⟩
  · exact .inl h2
  · have hne' : g' ≠ g := by
      rintro rfl
      exact Blk.ne_ (t := e) hh hg hne rfl
    exact .inr ⟨g', cap, cur, rfl, hb, (Below.heap_setCell w ⟨g, i, none⟩ u g' hne').trans hh, r⟩
end Go.Proofs.YtncdjmpdbinanaaGreatDoor
namespace Go.Proofs.YtncdjmpdbinanaaGreatDoor
open Go.RowKit

def prCells (i : Pr) : List Value := [.int .i64 i.id, .int .i64 i.nx, .int .i64 i.mt]
def prsL (is : List Pr) : List Value := is.flatMap prCells
def Prs (w : World) (B : Nat) (A : Option Addr) (n : Nat) (is : List Pr) : Prop := Reads w B 53 3 A n (prsL is)
theorem prsL_len : ∀ is : List Pr, (prsL is).length = is.length * 3
  | [] => rfl
  | r :: rs => by
    have := prsL_len rs
    unfold prsL at *
    simp only [List.flatMap_cons, List.length_append, List.length_cons, this, prCells, List.length_nil]
    omega
theorem prsL_at : ∀ (is : List Pr) (k : Nat) (r : Pr), is[k]? = some r → (prsL is)[k * 3]? = some (.int .i64 r.id) ∧ (prsL is)[k * 3 + 1]? = some (.int .i64 r.nx) ∧ (prsL is)[k * 3 + 2]? = some (.int .i64 r.mt)
  | r :: rs, 0, r', h => by
    simp only [List.getElem?_cons_zero, Option.some.injEq] at h
    subst h
    simp [prsL, prCells]
  | r :: rs, k + 1, r', h => by
    have ih := prsL_at rs k r' (by simpa using h)
    have e : ∀ j, (prsL (r :: rs))[j + 3]? = (prsL rs)[j]? := by
      intro j
      simp [prsL, prCells]
    rw [show (k + 1) * 3 = k * 3 + 3 from by omega, show k * 3 + 3 + 1 = k * 3 + 1 + 3 from by omega, show k * 3 + 3 + 2 = k * 3 + 2 + 3 from by omega, e, e, e]
    exact ih
theorem prsL_take (rs : List Pr) : ∀ k, (prsL rs).take (k * 3) = prsL (rs.take k) := by
  intro k
  induction k generalizing rs with
  | zero => simp [prsL]
  | succ k ih =>
    cases rs with
    | nil => simp [prsL]
    | cons r rs =>
      have := ih rs
      rw [show (k + 1) * 3 = k * 3 + 3 from by omega]
      simpa [prsL, prCells] using this
section
variable {w w' : World} {B n : Nat} {A : Option Addr} {is : List Pr}
theorem Prs.len (h : Prs w B A n is) : is.length = n := by
  have := h.1
  rw [prsL_len] at this
  omega
theorem Prs.at_ {k : Nat} (h : Prs w B A n is) (hk : k < n) :
    ∃ b o r, A = some ⟨b, o, none⟩ ∧ b < w.heap.size ∧ is.drop k = r :: is.drop (k + 1) ∧ w.cell? ⟨b, o + k * 3, none⟩ = some (.int .i64 r.id) ∧ w.cell? ⟨b, o + k * 3 + 1, none⟩ = some (.int .i64 r.nx) ∧ w.cell? ⟨b, o + k * 3 + 2, none⟩ = some (.int .i64 r.mt) := by
  obtain ⟨b, o, e, hb, _, hc⟩ := h.2 (by omega)
  have hl : k < is.length := by have := h.len; omega
  obtain ⟨c0, c1, c2⟩ := prsL_at is k is[k] (List.getElem?_eq_getElem hl)
  exact ⟨b, o, is[k], e, hb, List.drop_eq_getElem_cons hl, hc _ _ c0, hc _ _ c1, hc _ _ c2⟩
theorem Prs.to (h : Prs w B A n is) (hb : Below w.heap.size w w') : Prs w' B A n is := Reads.to h hb
theorem Prs.top (h : Prs w B A n is) : Prs w w.heap.size A n is := ⟨h.1, fun hn => by obtain ⟨b, o, e1, e2, _, e3⟩ := h.2 hn; exact ⟨b, o, e1, e2, .inl e2, e3⟩⟩
theorem Prs.take {k : Nat} (h : Prs w B A n is) (hk : k ≤ n) : Prs w B A k (is.take k) := by
  have h1 := Reads.take h hk
  rw [prsL_take] at h1
  exact h1
end

set_option maxHeartbeats 800000 in
theorem has_any (v p self last : Int) (A : Option Addr) (n cap : Nat) (ps : List Pr) (w : World) {B : Nat} (hm : n ≤ 8796093022208) (h0 : Prs w B A n ps) :
    Calls Tryz.prog 159 #[.int .i64 v, .int .i64 p, .int .i64 self, .int .i64 last, .slice A n cap] w fun e w' => e = .returned (.bool (hasB v p self last ps)) ∧ Below w.heap.size w w' := by
  obtain ⟨R, hR⟩ : ∃ R, hasB v p self last ps = R := ⟨_, rfl⟩
  rw [hR]
  have h := hid_mk h0.top
  have hlen := hid_mk h0.len
  clear h0
  by_cases hs : v = self
  · subst hs
    have hRo : Hid (R = decide (p ≤ last)) := by rw [Hid, ← hR]; unfold hasB; rw [if_pos rfl]
    replace hR := hid_mk hR
    refine calls_of_wpQ Tryz.func159 rfl ?_
    intro Q hQ
    simp only [Tryz.ntmps159, List.size_toArray, List.length_cons, List.length_nil, Nat.reduceAdd, Nat.reduceSub, Array.replicate_succ, Array.replicate_zero, List.push_toArray, List.append_toArray, List.nil_append, List.cons_append]
    go_wp2
    refine ends_ret hQ (results_tmp rfl _ _ _) rfl ?_
    exact ⟨ret_bool hRo.out.symm, Below.refl _ _⟩
  have hRo : Hid (R = hasF v p (ps.drop 0)) := by rw [Hid, ← hR]; unfold hasB; rw [if_neg hs]; rfl
  replace hR := hid_mk hR
  have hse : (v == self) = false := by simpa using hs
  replace hs := hid_mk hs
  refine calls_of_wpQ Tryz.func159 rfl ?_
  intro Q hQ
  simp only [Tryz.ntmps159, List.size_toArray, List.length_cons, List.length_nil, Nat.reduceAdd, Nat.reduceSub, Array.replicate_succ, Array.replicate_zero, List.push_toArray, List.append_toArray, List.nil_append, List.cons_append]
  go_wp2
  go_loopw [21] (fun iv wr => ∃ (k : Nat), iv = .int .i64 k ∧ k ≤ n ∧ Hid (R = hasF v p (ps.drop k)) ∧ Hid (Below w.heap.size w wr)) (fun iv _ => n - (intOf iv).toNat)
  case atStart => exact ⟨0, rfl, Nat.zero_le _, hRo, hid_mk (Below.refl _ _)⟩
  case round =>
    clear hRo
    obtain ⟨k, rfl, hk, hRk, hb⟩ := hrel
    by_cases hlt : k < n
    · obtain ⟨b, o, i, rfl, hbl, hdr, c0, c1, c2⟩ := (h.out.to hb.out).at_ hlt
      obtain ⟨I, N, M⟩ := i
      dsimp only at c0 c1 c2
      have hb2 : Hid (Below w.heap.size w (wr.alloc (.cells #[.int .i64 I, .int .i64 N, .int .i64 M] 53))) := hb.out.alloc hb.out.size _
      by_cases hx : I = v ∧ p ≤ M
      · have hRf : Hid (R = true) := by rw [Hid, hRk.out, hdr, hasF, if_pos hx]
        replace hdr := hid_mk hdr
        obtain ⟨rfl, hpm⟩ := hx
        go_wp2
        refine ends_ret hQ (results_tmp rfl _ _ _) rfl ?_
        exact ⟨ret_bool hRf.out.symm, hb2.out⟩
      · have hRn : Hid (R = hasF v p (ps.drop (k + 1))) := by rw [Hid, hRk.out, hdr, hasF, if_neg hx]
        replace hdr := hid_mk hdr
        by_cases hI : I = v
        · subst hI
          have hpm : ¬ p ≤ M := fun e => hx ⟨rfl, e⟩
          clear hx
          go_wp2
          go_roundw
          case rel => exact ⟨k + 1, by go_num, by omega, hRn, hb2.out⟩
          case measure => simp [intOf]; omega
        · have hI2 : (I == v) = false := by simpa using hI
          clear hx
          replace hI := hid_mk hI
          go_wp2
          go_roundw
          case rel => exact ⟨k + 1, by go_num, by omega, hRn, hb2.out⟩
          case measure => simp [intOf]; omega
    · have hRf : Hid (R = decide (p ≤ 0)) := by rw [Hid, hRk.out, List.drop_eq_nil_of_le (by rw [hlen.out]; omega)]; rfl
      go_wp2
      refine ends_ret hQ (results_tmp rfl _ _ _) rfl ?_
      exact ⟨ret_bool hRf.out.symm, hb.out⟩
end Go.Proofs.YtncdjmpdbinanaaGreatDoor
namespace Go.Proofs.YtncdjmpdbinanaaGreatDoor
open Go.RowKit

structure Slc where
  A : Option Addr
  n : Nat
  c : Nat
structure Hd where
  t : Int
  v : Int
  l : Lg
  s : ByteArray
  vs : List Int
structure Nd where
  id : Int
  h : Hd
  role : Int
  lead : Int
  timer : Int
  commit : Int
  got : List Int
  ps : List Pr
/-- where a node's rows lie: records, voters, who voted for it, peers -/
structure NdA where
  R : Slc
  V : Slc
  G : Slc
  P : Slc
def nodeV (N : Nd) (a : NdA) : Value :=
  .agg #[.int .i64 N.id, .int .i64 N.h.t, .int .i64 N.h.v, .int .i64 N.h.l.base, .int .i64 N.h.l.bt, .slice a.R.A a.R.n a.R.c, .string N.h.s, .slice a.V.A a.V.n a.V.c, .int .i64 N.role, .int .i64 N.lead, .int .i64 N.timer, .int .i64 N.commit, .slice a.G.A a.G.n a.G.c, .slice a.P.A a.P.n a.P.c]
structure NdOk (w : World) (B : Nat) (N : Nd) (a : NdA) : Prop where
  recs : Recs w B a.R.A a.R.n N.h.l.rs
  rc : a.R.n ≤ a.R.c
  rb : a.R.n * 32 ≤ 140737488351232
  vs : Ints w B a.V.A a.V.n N.h.vs
  vc : a.V.n ≤ a.V.c
  vb : a.V.n * 8 ≤ 140737488351232
  sb : N.h.s.size ≤ 140737488351232
  got : Ints w B a.G.A a.G.n N.got
  gc : a.G.n ≤ a.G.c
  gb : a.G.n * 8 ≤ 140737488351232
  ps : Prs w B a.P.A a.P.n N.ps
  pc : a.P.n ≤ a.P.c
  pb : a.P.n * 24 ≤ 140737488351232
structure Ms where
  kind : Int
  fr : Int
  to : Int
  term : Int
  ok : Bool
  index : Int
  lterm : Int
  rs : List Rec
  commit : Int
  s : ByteArray
  vs : List Int
structure MsA where
  R : Slc
  V : Slc
def msgV (M : Ms) (a : MsA) : Value :=
  .agg #[.int .i64 M.kind, .int .i64 M.fr, .int .i64 M.to, .int .i64 M.term, .bool M.ok, .int .i64 M.index, .int .i64 M.lterm, .slice a.R.A a.R.n a.R.c, .int .i64 M.commit, .string M.s, .slice a.V.A a.V.n a.V.c]
structure MsOk (w : World) (B : Nat) (M : Ms) (a : MsA) : Prop where
  recs : Recs w B a.R.A a.R.n M.rs
  rc : a.R.n ≤ a.R.c
  rb : a.R.n * 32 ≤ 140737488351232
  vs : Ints w B a.V.A a.V.n M.vs
  vc : a.V.n ≤ a.V.c
  vb : a.V.n * 8 ≤ 140737488351232
  sb : M.s.size ≤ 140737488351232
section
variable {w w' : World} {B B' : Nat} {N : Nd} {a : NdA} {M : Ms} {b : MsA}
theorem NdOk.to (h : NdOk w B N a) (hb : Below w.heap.size w w') : NdOk w' B N a := ⟨h.recs.to hb, h.rc, h.rb, h.vs.to hb, h.vc, h.vb, h.sb, h.got.to hb, h.gc, h.gb, h.ps.to hb, h.pc, h.pb⟩
theorem MsOk.to (h : MsOk w B M b) (hb : Below w.heap.size w w') : MsOk w' B M b := ⟨h.recs.to hb, h.rc, h.rb, h.vs.to hb, h.vc, h.vb, h.sb⟩
end
/-- numbers of all that a small node or message may hold -/
def bytesR (rs : List Rec) : Nat := (rs.map fun r => r.d.size).sum
end Go.Proofs.YtncdjmpdbinanaaGreatDoor
namespace Go.Proofs.YtncdjmpdbinanaaGreatDoor
open Go.RowKit

theorem asc_out {v : Int} (p : Option Int) {vs : List Int} (h : inB v 1 9 = false) : ascL p (v :: vs) = false := by
  have h' : v < 1 ∨ 9 < v := by unfold inB at h; simp at h; omega
  cases p with
  | none => rw [ascL, if_pos h']
  | some u => rw [ascL, if_pos (by omega)]
theorem asc_zero {v : Int} {vs : List Int} (h : inB v 1 9 = true) : ascL none (v :: vs) = ascL (some v) vs := by
  have h' : ¬ (v < 1 ∨ 9 < v) := by unfold inB at h; simp at h; omega
  rw [ascL, if_neg h']
theorem asc_succ {v u : Int} {vs : List Int} (h : inB v 1 9 = true) (hu : ¬ v ≤ u) : ascL (some u) (v :: vs) = ascL (some v) vs := by
  have h' : ¬ (v < 1 ∨ 9 < v ∨ v ≤ u) := by unfold inB at h; simp at h; omega
  rw [ascL, if_neg h']
theorem asc_low {v u : Int} (vs : List Int) (hu : v ≤ u) : ascL (some u) (v :: vs) = false := by
  rw [ascL, if_pos (.inr (.inr hu))]
theorem asc_nil (p : Option Int) : ascL p [] = true := by cases p <;> rfl
/-- may these records follow a term, up to a term? -/
def okT (T term : Int) : List Rec → Bool
  | [] => true
  | r :: rs => if inB r.t term T && inB r.k 0 2 && decide (r.d.size ≤ 8192) then okT T r.t rs else false
def logT (l : Lg) (T : Int) : Bool :=
  inB l.base 0 1073741824 && inB l.bt 0 T && (l.base == 0) == (l.bt == 0) && decide (l.rs.length ≤ 200) && decide (l.base + l.rs.length ≤ 1073741824) && okT T (max l.bt 1) l.rs
def shapedH (h : Hd) : Bool :=
  inB h.t 0 1073741824 && inB h.v 0 9 && (logT h.l h.t && (ascL none h.vs && decide (h.vs.length ≤ 7)) && decide (h.s.size ≤ 131072))
def hdV (h : Hd) (R V : Slc) : Value := .agg #[.int .i64 h.t, .int .i64 h.v, .int .i64 h.l.base, .int .i64 h.l.bt, .slice R.A R.n R.c, .string h.s, .slice V.A V.n V.c]
theorem wwithin_any (n lo hi : Int) (w : World) : Calls Tryz.prog 167 #[.int .i64 n, .int .i64 lo, .int .i64 hi] w fun e w' => e = .returned (.bool (inB n lo hi)) ∧ w = w' := by
  by_cases h1 : lo ≤ n
  · go_enter Tryz.func167, Tryz.ntmps167
    go_wp2
    go_ret
    exact ⟨ret_bool (by simp [inB, h1]), rfl⟩
  · have h2 : decide (lo ≤ n) = false := by simpa using h1
    go_enter Tryz.func167, Tryz.ntmps167
    go_wp2
    go_ret
    exact ⟨ret_bool (by unfold inB; rw [h2]; rfl), rfl⟩
set_option maxRecDepth 100000 in
set_option maxHeartbeats 6400000 in
theorem shaped_any (h : Hd) (R V : Slc) (w : World) {B : Nat} (hm : R.n ≤ 140737488355328) (hv : V.n ≤ 140737488355328) (hr : Recs w B R.A R.n h.l.rs) (hi : Ints w B V.A V.n h.vs) :
    Calls Tryz.prog 147 #[hdV h R V] w fun e w' => e = .returned (.bool (shapedH h)) ∧ Below w.heap.size w w' := by
  obtain ⟨t, hv', ⟨base, bt, rs⟩, s, xs⟩ := h
  obtain ⟨RA, n, Rc⟩ := R
  obtain ⟨VA, m, Vc⟩ := V
  have hlen := hid_mk hr.len
  have hlv := hid_mk hi.len
  have hX0 : Hid (Blk ((w.alloc (.cells #[.int .i64 t, .int .i64 hv', .int .i64 base, .int .i64 bt, .slice RA n Rc, .string s, .slice VA m Vc] 27)).alloc (.cells #[.int .i64 base, .int .i64 bt, .slice RA n Rc] 24)) w.heap.size 27 #[.int .i64 t, .int .i64 hv', .int .i64 base, .int .i64 bt, .slice RA n Rc, .string s, .slice VA m Vc]) := (Blk.new w _ _).alloc _
  have hB0 : Below w.heap.size w ((w.alloc (.cells #[.int .i64 t, .int .i64 hv', .int .i64 base, .int .i64 bt, .slice RA n Rc, .string s, .slice VA m Vc] 27)).alloc (.cells #[.int .i64 base, .int .i64 bt, .slice RA n Rc] 24)) := by go_grown
  unfold hdV
  dsimp only at *
  go_enter Tryz.func147, Tryz.ntmps147
  go_wp2_with fail
  refine (wwithin_any _ _ _ _).mono ?_
  rintro e w' ⟨rfl, rfl⟩
  cases h1 : inB t 0 1073741824
  · replace h1 := hid_mk h1
    go_wp2
    go_ret
    exact ⟨ret_bool (by simp [shapedH, logT, h1.out]), hB0⟩
  have hb1 : 0 ≤ t ∧ t ≤ 1073741824 := by simpa [inB] using h1
  replace h1 := hid_mk h1
  go_wp2_with fail
  refine (wwithin_any _ _ _ _).mono ?_
  rintro e w' ⟨rfl, rfl⟩
  cases h2 : inB hv' 0 9
  · replace h2 := hid_mk h2
    go_wp2
    go_ret
    exact ⟨ret_bool (by simp [shapedH, logT, h2.out]), hB0⟩
  replace h2 := hid_mk h2
  go_wp2_with fail
  refine (wwithin_any _ _ _ _).mono ?_
  rintro e w' ⟨rfl, rfl⟩
  cases h3 : inB base 0 1073741824
  · replace h3 := hid_mk h3
    go_wp2
    go_ret
    exact ⟨ret_bool (by simp [shapedH, logT, h3.out]), hB0⟩
  have hb3 : 0 ≤ base ∧ base ≤ 1073741824 := by simpa [inB] using h3
  replace h3 := hid_mk h3
  go_wp2_with fail
  refine (wwithin_any _ _ _ _).mono ?_
  rintro e w' ⟨rfl, rfl⟩
  cases h4 : inB bt 0 t
  · replace h4 := hid_mk h4
    go_wp2
    go_ret
    exact ⟨ret_bool (by simp [shapedH, logT, h4.out]), hB0⟩
  have hb4 : 0 ≤ bt ∧ bt ≤ t := by simpa [inB] using h4
  replace h4 := hid_mk h4
  by_cases h5 : (base == 0) = (bt == 0)
  case neg =>
    have h5' : ((base == 0) == (bt == 0)) = false := by simpa using h5
    replace h5' := hid_mk h5'
    cases hx : (base == 0) <;> cases hy : (bt == 0) <;> simp only [hx, hy, not_true_eq_false] at h5
    all_goals
      clear h5
      go_wp2
      go_ret
      exact ⟨ret_bool (by unfold shapedH logT; rw [h5'.out]; simp), hB0⟩
  obtain ⟨z, hz⟩ : ∃ z, (bt == 0) = z := ⟨_, rfl⟩
  rw [hz] at h5
  have h5' : Hid (((base == 0) == (bt == 0)) = true) := by rw [h5, hz]; simp [Hid]
  by_cases h6 : 200 < n
  · go_wp2
    go_ret
    exact ⟨ret_bool (by unfold shapedH logT; rw [hlen.out, show decide (n ≤ 200) = false from by simp; omega]; simp), hB0⟩
  by_cases h7 : 1073741824 - (n : Int) < base
  · go_wp2
    go_ret
    exact ⟨ret_bool (by unfold shapedH logT; rw [hlen.out, show decide (base + n ≤ 1073741824) = false from by simp; omega]; simp), hB0⟩
  by_cases h8 : 7 < m
  · go_wp2
    go_ret
    exact ⟨ret_bool (by unfold shapedH; rw [hlv.out, show decide (m ≤ 7) = false from by simp; omega]; simp), hB0⟩
  by_cases h9 : 131072 < s.size
  · go_wp2
    go_ret
    exact ⟨ret_bool (by unfold shapedH; rw [show decide (s.size ≤ 131072) = false from by simp; omega]; simp), hB0⟩
  have hsh : Hid (shapedH ⟨t, hv', ⟨base, bt, rs⟩, s, xs⟩ = (okT t (max bt 1) rs && ascL none xs)) := by
    unfold Hid shapedH logT
    rw [hlen.out, hlv.out, show decide (n ≤ 200) = true from by simp; omega, show decide (base + n ≤ 1073741824) = true from by simp; omega, show decide (m ≤ 7) = true from by simp; omega, show decide (s.size ≤ 131072) = true from by simp; omega, h1.out, h2.out, h3.out, h4.out, h5'.out]
    simp
  clear h1 h2 h3 h4 h5'
  have hmx : 1 ≤ max bt 1 ∧ max bt 1 ≤ 1073741824 := by omega
  go_wp2
  clear h5 hz
  go_loopw [4, 77] (fun tm i wr => ∃ (k : Nat) (term : Int), k ≤ n ∧ i = .int .i64 k ∧ tm = .int .i64 term ∧ Below w.heap.size w wr ∧ Hid (shapedH ⟨t, hv', ⟨base, bt, rs⟩, s, xs⟩ = (okT t term (rs.drop k) && ascL none xs)) ∧ Hid (Blk wr w.heap.size 27 #[.int .i64 t, .int .i64 hv', .int .i64 base, .int .i64 bt, .slice RA n Rc, .string s, .slice VA m Vc])) (fun _ i _ => n - (intOf i).toNat)
  case atStart => exact ⟨0, _, Nat.zero_le _, rfl, rfl, hB0, hsh, hX0⟩
  case round =>
    clear hX0 hB0 hsh
    obtain ⟨k, term, hk, rfl, rfl, hb, hn, hX⟩ := hrel
    have x0 := hX.out.cell 0
    have xl := hX.out.lt
    change _ = some (Value.int .i64 t) at x0
    by_cases hlt : k < n
    · obtain ⟨b, o, r, rfl, hbb, hd, ct, ck, cd⟩ := (hr.below hb).at_ hlt
      have hb2 : Below w.heap.size w (wr.alloc (.cells #[.int .i64 r.t, .int .i64 r.k, .string r.d] 51)) := hb.alloc hb.size _
      have hX2 := hid_mk (hX.out.alloc (.cells #[.int .i64 r.t, .int .i64 r.k, .string r.d] 51))
      obtain ⟨rt, rk, rd⟩ := r
      dsimp only at *
      go_wp2_with fail
      refine (wwithin_any _ _ _ _).mono ?_
      rintro e w' ⟨rfl, rfl⟩
      cases g1 : inB rt term t
      · replace g1 := hid_mk g1
        go_wp2
        go_ret
        exact ⟨ret_bool (by rw [hn.out, hd.out]; simp [okT, g1.out]), hb2⟩
      have gb1 : term ≤ rt ∧ rt ≤ t := by simpa [inB] using g1
      replace g1 := hid_mk g1
      go_wp2_with fail
      refine (wwithin_any _ _ _ _).mono ?_
      rintro e w' ⟨rfl, rfl⟩
      cases g2 : inB rk 0 2
      · replace g2 := hid_mk g2
        go_wp2
        go_ret
        exact ⟨ret_bool (by rw [hn.out, hd.out]; simp [okT, g2.out]), hb2⟩
      replace g2 := hid_mk g2
      by_cases g3 : 8192 < rd.size
      · go_wp2
        go_ret
        exact ⟨ret_bool (by rw [hn.out, hd.out]; simp [okT]; omega), hb2⟩
      go_wp2
      go_roundw
      case rel => exact ⟨k + 1, rt, by omega, by go_num, rfl, hb2, by rw [Hid, hn.out, hd.out, okT, g1.out, g2.out, show decide (rd.size ≤ 8192) = true from by simp; omega]; rfl, hX2⟩
      case measure => simp [intOf]; omega
    · have he := hid_mk (hr.end_ hlt)
      have x6 := hX.out.cell 6
      change _ = some (Value.slice VA m Vc) at x6
      have hn0 : Hid (shapedH ⟨t, hv', ⟨base, bt, rs⟩, s, xs⟩ = ascL (prevOf xs 0) (xs.drop 0)) := by rw [Hid, hn.out, he.out]; simp [okT, prev_zero]
      clear hn he
      obtain ⟨wo, hwo⟩ : ∃ wo : World, wo = wr := ⟨_, rfl⟩
      subst hwo
      go_wp2
      have q0 := hid_mk hb
      go_loopw [7, 8, 106] (fun _ _ i wr => ∃ k : Nat, k ≤ m ∧ i = .int .i64 k ∧ Below w.heap.size w wr ∧ Hid (shapedH ⟨t, hv', ⟨base, bt, rs⟩, s, xs⟩ = ascL (prevOf xs k) (xs.drop k)) ∧ Hid (Blk wr w.heap.size 27 #[.int .i64 t, .int .i64 hv', .int .i64 base, .int .i64 bt, .slice RA n Rc, .string s, .slice VA m Vc])) (fun _ _ i _ => m - (intOf i).toNat)
      case atStart => exact ⟨0, Nat.zero_le _, rfl, hb, hn0, hX⟩
      case round =>
        obtain ⟨k, hk, rfl, hb, hn, hX⟩ := hrel
        have x6 := hX.out.cell 6
        have xl := hX.out.lt
        change _ = some (Value.slice VA m Vc) at x6
        by_cases hlt : k < m
        · obtain ⟨b, o, v, rfl, hbb, hd, hc⟩ := (hi.to hb).at_ hlt
          have hp1 := hid_mk (prev_succ hd.out)
          have hend := hid_mk (fun he : ascL (prevOf xs k) (xs.drop k) = false => hn.out.trans he)
          rcases Nat.eq_zero_or_pos k with h0 | h0
          · subst h0
            rw [Nat.add_zero] at hc
            go_wp2_with fail
            refine (wwithin_any _ _ _ _).mono ?_
            rintro e w1 ⟨rfl, rfl⟩
            cases g1 : inB v 1 9
            · replace g1 := hid_mk g1
              go_wp2
              go_ret
              exact ⟨ret_bool (by rw [hend.out]; rw [hd.out, asc_out _ g1.out]), hb⟩
            replace g1 := hid_mk g1
            go_wp2
            go_roundw
            case rel => exact ⟨1, by omega, by go_num, hb, by rw [Hid, hn.out, hd.out, hp1.out, prev_zero, asc_zero g1.out], hX⟩
            case measure => simp [intOf]; omega
          · obtain ⟨kp, rfl⟩ : ∃ kp, k = kp + 1 := ⟨k - 1, by omega⟩
            obtain ⟨b', o', u, e, _, hd', hc'⟩ := (hi.to hb).at_ (show kp < m by omega)
            cases e
            have hp := hid_mk (prev_succ hd'.out)
            go_wp2_with fail
            refine (wwithin_any _ _ _ _).mono ?_
            rintro e w1 ⟨rfl, rfl⟩
            cases g1 : inB v 1 9
            · replace g1 := hid_mk g1
              go_wp2
              go_ret
              exact ⟨ret_bool (by rw [hend.out]; rw [hd.out, asc_out _ g1.out]), hb⟩
            replace g1 := hid_mk g1
            by_cases hu : v ≤ u
            · go_wp2
              go_ret
              exact ⟨ret_bool (by rw [hend.out]; rw [hp.out, hd.out, asc_low _ (by omega)]), hb⟩
            go_wp2
            go_roundw
            case rel => exact ⟨kp + 1 + 1, by omega, by go_num, hb, by rw [Hid, hn.out, hd.out, hp1.out, hp.out, asc_succ g1.out (by omega)], hX⟩
            case measure => simp [intOf]; omega
        · have he := hid_mk (hi.end_ hk hlt)
          have hf := hid_mk (show shapedH ⟨t, hv', ⟨base, bt, rs⟩, s, xs⟩ = true by rw [hn.out, he.out]; exact asc_nil _)
          go_wp2
          go_ret
          exact ⟨ret_bool hf.out.symm, hb⟩
end Go.Proofs.YtncdjmpdbinanaaGreatDoor
namespace Go.Proofs.YtncdjmpdbinanaaGreatDoor
open Go.RowKit

def msgCells (p : Ms × MsA) : List Value := [.int .i64 p.1.kind, .int .i64 p.1.fr, .int .i64 p.1.to, .int .i64 p.1.term, .bool p.1.ok, .int .i64 p.1.index, .int .i64 p.1.lterm, .slice p.2.R.A p.2.R.n p.2.R.c, .int .i64 p.1.commit, .string p.1.s, .slice p.2.V.A p.2.V.n p.2.V.c]
def mgsL (ms : List (Ms × MsA)) : List Value := ms.flatMap msgCells
def Mgs (w : World) (B : Nat) (A : Option Addr) (n : Nat) (ms : List (Ms × MsA)) : Prop := Reads w B 32 11 A n (mgsL ms) ∧ ∀ p ∈ ms, MsOk w B p.1 p.2
def nilMA : MsA := ⟨⟨none, 0, 0⟩, ⟨none, 0, 0⟩⟩
theorem nilMA_ok {w : World} {B : Nat} {M : Ms} (h1 : M.rs = []) (h2 : M.vs = []) (h3 : M.s.size = 0) : MsOk w B M nilMA := by
  refine ⟨?_, Nat.le_refl _, by unfold nilMA; dsimp only; omega, ?_, Nat.le_refl _, by unfold nilMA; dsimp only; omega, by omega⟩
  · rw [h1]; exact Reads.none_
  · rw [h2]; exact Reads.none_
theorem mgsL_len : ∀ ms : List (Ms × MsA), (mgsL ms).length = ms.length * 11
  | [] => rfl
  | r :: rs => by
    have := mgsL_len rs
    unfold mgsL at *
    simp only [List.flatMap_cons, List.length_append, List.length_cons, this, msgCells, List.length_nil]
    omega
theorem mgsL_at : ∀ (ms : List (Ms × MsA)) (k : Nat) (p : Ms × MsA), ms[k]? = some p → ∀ j, j < 11 → (mgsL ms)[k * 11 + j]? = (msgCells p)[j]?
  | r :: rs, 0, p, h, j, hj => by
    simp only [List.getElem?_cons_zero, Option.some.injEq] at h
    subst h
    rw [Nat.zero_mul, Nat.zero_add, mgsL, List.flatMap_cons, List.getElem?_append_left (by simpa [msgCells] using hj)]
  | r :: rs, k + 1, p, h, j, hj => by
    have ih := mgsL_at rs k p (by simpa using h) j hj
    rw [← ih, mgsL, List.flatMap_cons, List.getElem?_append_right (by simp [msgCells]; omega)]
    congr 1
    simp [msgCells]; omega
section
variable {w w' : World} {B n : Nat} {A : Option Addr} {ms : List (Ms × MsA)} {L : List Ms}
theorem Mgs.len (h : Mgs w B A n ms) : ms.length = n := by
  have := h.1.1
  rw [mgsL_len] at this
  omega
theorem Mgs.to (h : Mgs w B A n ms) (hb : Below w.heap.size w w') : Mgs w' B A n ms := ⟨h.1.to hb, fun p hp => (h.2 p hp).to hb⟩
theorem Mgs.at_ {k : Nat} (h : Mgs w B A n ms) (hk : k < n) :
    ∃ b o p, A = some ⟨b, o, none⟩ ∧ b < w.heap.size ∧ ms.drop k = p :: ms.drop (k + 1) ∧ MsOk w B p.1 p.2 ∧ w.cell? ⟨b, o + k * 11, none⟩ = some (.int .i64 p.1.kind) ∧ w.cell? ⟨b, o + k * 11 + 1, none⟩ = some (.int .i64 p.1.fr) ∧ w.cell? ⟨b, o + k * 11 + 2, none⟩ = some (.int .i64 p.1.to) ∧ w.cell? ⟨b, o + k * 11 + 3, none⟩ = some (.int .i64 p.1.term) ∧ w.cell? ⟨b, o + k * 11 + 4, none⟩ = some (.bool p.1.ok) ∧ w.cell? ⟨b, o + k * 11 + 5, none⟩ = some (.int .i64 p.1.index) ∧ w.cell? ⟨b, o + k * 11 + 6, none⟩ = some (.int .i64 p.1.lterm) ∧ w.cell? ⟨b, o + k * 11 + 7, none⟩ = some (.slice p.2.R.A p.2.R.n p.2.R.c) ∧ w.cell? ⟨b, o + k * 11 + 8, none⟩ = some (.int .i64 p.1.commit) ∧ w.cell? ⟨b, o + k * 11 + 9, none⟩ = some (.string p.1.s) ∧ w.cell? ⟨b, o + k * 11 + 10, none⟩ = some (.slice p.2.V.A p.2.V.n p.2.V.c) := by
  obtain ⟨b, o, e, hb, _, hc⟩ := h.1.2 (by omega)
  have hl : k < ms.length := by have := h.len; omega
  have hg := mgsL_at ms k ms[k] (List.getElem?_eq_getElem hl)
  have hq : ∀ j, j < 11 → ∀ u, (msgCells ms[k])[j]? = some u → w.cell? ⟨b, o + k * 11 + j, none⟩ = some u := fun j hj u hu => by
    have := hc (k * 11 + j) u (by rw [hg j hj]; exact hu)
    rw [← Nat.add_assoc] at this
    exact this
  exact ⟨b, o, ms[k], e, hb, List.drop_eq_getElem_cons hl, h.2 _ (List.getElem_mem hl), hq 0 (by omega) _ rfl, hq 1 (by omega) _ rfl, hq 2 (by omega) _ rfl, hq 3 (by omega) _ rfl, hq 4 (by omega) _ rfl, hq 5 (by omega) _ rfl, hq 6 (by omega) _ rfl, hq 7 (by omega) _ rfl, hq 8 (by omega) _ rfl, hq 9 (by omega) _ rfl, hq 10 (by omega) _ rfl⟩
theorem Mgs.far (h : Mgs w 0 A n (L.map fun M => (M, nilMA))) {g : Nat} {t : TypeId} {cs : Array Value} (k : Blk w g t cs) (hne : 32 ≠ t) (i : Nat) (u : Value) (hs : ∀ M ∈ L, M.rs = [] ∧ M.vs = [] ∧ M.s.size = 0) : Mgs (w.setCell ⟨g, i, none⟩ u) 0 A n (L.map fun M => (M, nilMA)) := by
  refine ⟨Reads.far h.1 k (Nat.zero_le _) hne i u, fun p hp => ?_⟩
  obtain ⟨M, hM, rfl⟩ := List.mem_map.1 hp
  obtain ⟨h1, h2, h3⟩ := hs M hM
  exact nilMA_ok h1 h2 h3
theorem Mgs.at_to {k : Nat} (h : Mgs w B A n ms) (hb : Below w.heap.size w w') (hk : k < n) :
    ∃ b o p, A = some ⟨b, o, none⟩ ∧ b < w'.heap.size ∧ ms.drop k = p :: ms.drop (k + 1) ∧ MsOk w B p.1 p.2 ∧ w'.cell? ⟨b, o + k * 11, none⟩ = some (.int .i64 p.1.kind) ∧ w'.cell? ⟨b, o + k * 11 + 1, none⟩ = some (.int .i64 p.1.fr) ∧ w'.cell? ⟨b, o + k * 11 + 2, none⟩ = some (.int .i64 p.1.to) ∧ w'.cell? ⟨b, o + k * 11 + 3, none⟩ = some (.int .i64 p.1.term) ∧ w'.cell? ⟨b, o + k * 11 + 4, none⟩ = some (.bool p.1.ok) ∧ w'.cell? ⟨b, o + k * 11 + 5, none⟩ = some (.int .i64 p.1.index) ∧ w'.cell? ⟨b, o + k * 11 + 6, none⟩ = some (.int .i64 p.1.lterm) ∧ w'.cell? ⟨b, o + k * 11 + 7, none⟩ = some (.slice p.2.R.A p.2.R.n p.2.R.c) ∧ w'.cell? ⟨b, o + k * 11 + 8, none⟩ = some (.int .i64 p.1.commit) ∧ w'.cell? ⟨b, o + k * 11 + 9, none⟩ = some (.string p.1.s) ∧ w'.cell? ⟨b, o + k * 11 + 10, none⟩ = some (.slice p.2.V.A p.2.V.n p.2.V.c) := by
  obtain ⟨b, o, p, e, hbb, hd, _, cs⟩ := (h.to hb).at_ hk
  exact ⟨b, o, p, e, hbb, hd, h.2 p (List.mem_of_mem_drop (by rw [hd]; exact .head _)), cs⟩
theorem Mgs.end_ (h : Mgs w B A n ms) {k : Nat} (hk : ¬ k < n) : ms.drop k = [] := List.drop_eq_nil_of_le (by rw [h.len]; omega)
end
/-- what hands back a node and messages that hold no slices -/
def RetNM (N : Nd) (a : NdA) (ms : List Ms) (e : Ending) (w : World) : Prop :=
  ∃ A n c, e = .returned (.tuple #[nodeV N a, .slice A n c]) ∧ Mgs w 0 A n (ms.map fun M => (M, nilMA)) ∧ n ≤ c
theorem mgs_nil {w : World} {B : Nat} : Mgs w B none 0 [] := ⟨Reads.none_, fun _ h => by cases h⟩
/-- one message in a block of its own -/
theorem mgs_one {w : World} {B g : Nat} {M : Ms} (h : Blk w g 32 #[.int .i64 M.kind, .int .i64 M.fr, .int .i64 M.to, .int .i64 M.term, .bool M.ok, .int .i64 M.index, .int .i64 M.lterm, .slice none 0 0, .int .i64 M.commit, .string M.s, .slice none 0 0]) (h1 : M.rs = []) (h2 : M.vs = []) (h3 : M.s.size = 0) : Mgs w B (some ⟨g, 0, none⟩) 1 [(M, nilMA)] := by
  refine ⟨⟨rfl, fun _ => ⟨g, 0, rfl, h.lt, .inr ⟨_, _, h⟩, fun j u hu => ?_⟩⟩, fun p hp => ?_⟩
  · rw [Nat.zero_add, h.cell j]
    simpa [mgsL, msgCells, nilMA] using hu
  · rw [List.mem_singleton] at hp
    subst hp
    exact nilMA_ok h1 h2 h3
end Go.Proofs.YtncdjmpdbinanaaGreatDoor
namespace Go.Proofs.YtncdjmpdbinanaaGreatDoor
open Go.RowKit

def ndCells (p : Nd × NdA) : List Value := [.int .i64 p.1.id, .int .i64 p.1.h.t, .int .i64 p.1.h.v, .int .i64 p.1.h.l.base, .int .i64 p.1.h.l.bt, .slice p.2.R.A p.2.R.n p.2.R.c, .string p.1.h.s, .slice p.2.V.A p.2.V.n p.2.V.c, .int .i64 p.1.role, .int .i64 p.1.lead, .int .i64 p.1.timer, .int .i64 p.1.commit, .slice p.2.G.A p.2.G.n p.2.G.c, .slice p.2.P.A p.2.P.n p.2.P.c]
def ndsL (ms : List (Nd × NdA)) : List Value := ms.flatMap ndCells
def Nds (w : World) (B : Nat) (A : Option Addr) (n : Nat) (ms : List (Nd × NdA)) : Prop := Reads w 0 30 14 A n (ndsL ms) ∧ ∀ p ∈ ms, NdOk w B p.1 p.2
theorem ndsL_len : ∀ ms : List (Nd × NdA), (ndsL ms).length = ms.length * 14
  | [] => rfl
  | r :: rs => by
    have := ndsL_len rs
    unfold ndsL at *
    simp only [List.flatMap_cons, List.length_append, List.length_cons, this, ndCells, List.length_nil]
    omega
theorem ndCells_len (p : Nd × NdA) : (ndCells p).length = 14 := rfl
theorem flat_at {α : Type} (f : α → List Value) (K : Nat) (hK : ∀ x, (f x).length = K) : ∀ (l : List α) (k : Nat) (p : α), l[k]? = some p → ∀ j, j < K → (l.flatMap f)[k * K + j]? = (f p)[j]? := by
  intro l
  induction l with
  | nil => intro k p h; simp at h
  | cons r rs ih =>
    intro k p h j hj
    cases k with
    | zero =>
      simp only [List.getElem?_cons_zero, Option.some.injEq] at h
      subst h
      rw [Nat.zero_mul, Nat.zero_add, List.flatMap_cons, List.getElem?_append_left (by rw [hK]; exact hj)]
    | succ k =>
      have h1 := ih k p (by simpa using h) j hj
      have e : (k + 1) * K + j - K = k * K + j := by rw [Nat.succ_mul]; omega
      rw [← h1, List.flatMap_cons, List.getElem?_append_right (by rw [hK, Nat.succ_mul]; omega), hK, e]
theorem ndsL_at (ms : List (Nd × NdA)) (k : Nat) (p : Nd × NdA) (h : ms[k]? = some p) (j : Nat) (hj : j < 14) : (ndsL ms)[k * 14 + j]? = (ndCells p)[j]? := flat_at ndCells 14 ndCells_len ms k p h j hj
section
variable {w w' : World} {B n : Nat} {A : Option Addr} {ms : List (Nd × NdA)}
theorem Nds.len (h : Nds w B A n ms) : ms.length = n := by
  have := h.1.1
  rw [ndsL_len] at this
  omega
theorem Nds.to (h : Nds w B A n ms) (hb : Below w.heap.size w w') : Nds w' B A n ms := ⟨h.1.to hb, fun p hp => (h.2 p hp).to hb⟩
theorem Nds.at_ {k : Nat} (h : Nds w B A n ms) (hk : k < n) :
    ∃ b o p, A = some ⟨b, o, none⟩ ∧ b < w.heap.size ∧ p ∈ ms ∧ NdOk w B p.1 p.2 ∧ w.cell? ⟨b, o + k * 14, none⟩ = some (.int .i64 p.1.id) ∧ w.cell? ⟨b, o + k * 14 + 1, none⟩ = some (.int .i64 p.1.h.t) ∧ w.cell? ⟨b, o + k * 14 + 2, none⟩ = some (.int .i64 p.1.h.v) ∧ w.cell? ⟨b, o + k * 14 + 3, none⟩ = some (.int .i64 p.1.h.l.base) ∧ w.cell? ⟨b, o + k * 14 + 4, none⟩ = some (.int .i64 p.1.h.l.bt) ∧ w.cell? ⟨b, o + k * 14 + 5, none⟩ = some (.slice p.2.R.A p.2.R.n p.2.R.c) ∧ w.cell? ⟨b, o + k * 14 + 6, none⟩ = some (.string p.1.h.s) ∧ w.cell? ⟨b, o + k * 14 + 7, none⟩ = some (.slice p.2.V.A p.2.V.n p.2.V.c) ∧ w.cell? ⟨b, o + k * 14 + 8, none⟩ = some (.int .i64 p.1.role) ∧ w.cell? ⟨b, o + k * 14 + 9, none⟩ = some (.int .i64 p.1.lead) ∧ w.cell? ⟨b, o + k * 14 + 10, none⟩ = some (.int .i64 p.1.timer) ∧ w.cell? ⟨b, o + k * 14 + 11, none⟩ = some (.int .i64 p.1.commit) ∧ w.cell? ⟨b, o + k * 14 + 12, none⟩ = some (.slice p.2.G.A p.2.G.n p.2.G.c) ∧ w.cell? ⟨b, o + k * 14 + 13, none⟩ = some (.slice p.2.P.A p.2.P.n p.2.P.c) := by
  obtain ⟨b, o, e, hb, _, hc⟩ := h.1.2 (by omega)
  have hl : k < ms.length := by have := h.len; omega
  have hg := ndsL_at ms k ms[k] (List.getElem?_eq_getElem hl)
  have hq : ∀ j, j < 14 → ∀ u, (ndCells ms[k])[j]? = some u → w.cell? ⟨b, o + k * 14 + j, none⟩ = some u := fun j hj u hu => by
    have := hc (k * 14 + j) u (by rw [hg j hj]; exact hu)
    rw [← Nat.add_assoc] at this
    exact this
  exact ⟨b, o, ms[k], e, hb, List.getElem_mem hl, h.2 _ (List.getElem_mem hl), hq 0 (by omega) _ rfl, hq 1 (by omega) _ rfl, hq 2 (by omega) _ rfl, hq 3 (by omega) _ rfl, hq 4 (by omega) _ rfl, hq 5 (by omega) _ rfl, hq 6 (by omega) _ rfl, hq 7 (by omega) _ rfl, hq 8 (by omega) _ rfl, hq 9 (by omega) _ rfl, hq 10 (by omega) _ rfl, hq 11 (by omega) _ rfl, hq 12 (by omega) _ rfl, hq 13 (by omega) _ rfl⟩
end
end Go.Proofs.YtncdjmpdbinanaaGreatDoor
