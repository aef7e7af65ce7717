/-
  WHAT IS PROVED HERE: the primes' roots, reckoned, are the numbers written out. No condition.
-/
import Derived.Test.YtpfjfihfnplhfaaRoot2
namespace Go.Proofs.Ytpfjfihfnplhfaa
open Go.RowKit

/-- k bits are still to be tried; x is what is sure -/
def rootN (want : List Nat) (cube : Bool) : Nat → Nat → Nat
  | 0, x => x
  | k + 1, x => match aboveM (if cube then mulN (mulN (digN 4 (x + 2 ^ k)) (digN 4 (x + 2 ^ k))) (digN 4 (x + 2 ^ k)) else mulN (digN 4 (x + 2 ^ k)) (digN 4 (x + 2 ^ k))) want with
    | true => rootN want cube k x
    | false => rootN want cube k (x + 2 ^ k)
def wantN (p : Nat) (cube : Bool) : List Nat := List.replicate (if cube then 6 else 4) 0 ++ digN 4 p
def rootP (p : Nat) (cube : Bool) : Nat := rootN (wantN p cube) cube 37 0 % 4294967296
def primeB (p : Nat) : List Nat → Bool → Bool
  | [], b => b
  | q :: r, b => primeB p r (b && decide (p % q ≠ 0))
def primesN : Nat → Nat → Nat → List Nat → Option (List Nat)
  | 0, _, _, _ => none
  | f + 1, n, p, out => if out.length < n then (match primeB p out true with
    | true => primesN f n (p + 1) (out ++ [p])
    | false => primesN f n (p + 1) out) else some out
def p64 : List Nat := [2, 3, 5, 7, 11, 13, 17, 19, 23, 29, 31, 37, 41, 43, 47, 53, 59, 61, 67, 71, 73, 79, 83, 89, 97, 101, 103, 107, 109, 113, 127, 131, 137, 139, 149, 151, 157, 163, 167, 173, 179, 181, 191, 193, 197, 199, 211, 223, 227, 229, 233, 239, 241, 251, 257, 263, 269, 271, 277, 281, 283, 293, 307, 311]
def p8 : List Nat := [2, 3, 5, 7, 11, 13, 17, 19]
set_option maxRecDepth 100000 in
theorem primes_64 : primesN 400 64 2 [] = some p64 := by decide +kernel
set_option maxRecDepth 100000 in
theorem primes_8 : primesN 400 8 2 [] = some p8 := by decide +kernel
/- the same, reckoned eagerly -/
def forceN {T : Type} (n : Nat) (f : Nat → T) : T := match n with
  | 0 => f 0
  | n + 1 => f (n + 1)
theorem forceN_eq {T : Type} (n : Nat) (f : Nat → T) : forceN n f = f n := by cases n <;> rfl
def forceL {T : Type} : List Nat → (List Nat → T) → T
  | [], f => f []
  | x :: xs, f => forceN x fun v => forceL xs fun ys => f (v :: ys)
theorem forceL_eq {T : Type} : ∀ (l : List Nat) (f : List Nat → T), forceL l f = f l
  | [], _ => rfl
  | x :: xs, f => by unfold forceL; rw [forceN_eq, forceL_eq xs]
def rowE {T : Type} (i a : Nat) (f : List Nat → Nat → T) : List Nat → Nat → List Nat → Nat → T
  | [], _, out, c => f out c
  | b :: bs, j, out, c => forceN (out.getD (i + j) 0 + a * b + c) fun x => forceN (x % 65536) fun r => forceN (x / 65536) fun q => forceL (out.set (i + j) r) fun o => rowE i a f bs (j + 1) o q
theorem rowE_eq {T : Type} (i a : Nat) (f : List Nat → Nat → T) : ∀ (bs : List Nat) (j : Nat) (out : List Nat) (c : Nat), rowE i a f bs j out c = f (rowN i a bs j out c).1 (rowN i a bs j out c).2
  | [], _, _, _ => rfl
  | b :: bs, j, out, c => by
    unfold rowE
    rw [forceN_eq, forceN_eq, forceN_eq, forceL_eq, rowE_eq i a f bs]
    rfl
def prodE {T : Type} (f : List Nat → T) (bs : List Nat) : List Nat → Nat → List Nat → T
  | [], _, out => f out
  | a :: rest, i, out => rowE i a (fun o c => forceN (o.getD (i + bs.length) 0 + c) fun v => forceL (o.set (i + bs.length) v) fun o2 => prodE f bs rest (i + 1) o2) bs 0 out 0
theorem prodE_eq {T : Type} (f : List Nat → T) (bs : List Nat) : ∀ (l : List Nat) (i : Nat) (out : List Nat), prodE f bs l i out = f (prodN bs l i out)
  | [], _, _ => rfl
  | a :: rest, i, out => by
    unfold prodE
    rw [rowE_eq]
    simp only [forceN_eq, forceL_eq]
    rw [prodE_eq f bs rest]
    rfl
def mulE {T : Type} (f : List Nat → T) (a b : List Nat) : T := forceL (List.replicate (a.length + b.length) 0) fun o => prodE f b a 0 o
theorem mulE_eq {T : Type} (f : List Nat → T) (a b : List Nat) : mulE f a b = f (mulN a b) := by
  unfold mulE
  rw [forceL_eq, prodE_eq]; rfl
def stepE {T : Type} (cube : Bool) (t : Nat) (f : List Nat → T) : T := forceL (digN 4 t) fun d => match cube with
  | true => mulE (fun q => mulE f q d) d d
  | false => mulE f d d
theorem stepE_eq {T : Type} (cube : Bool) (t : Nat) (f : List Nat → T) : stepE cube t f = f (if cube then mulN (mulN (digN 4 t) (digN 4 t)) (digN 4 t) else mulN (digN 4 t) (digN 4 t)) := by
  unfold stepE
  rw [forceL_eq]
  cases cube
  · simp [mulE_eq]
  · simp [mulE_eq]
def rootE (want : List Nat) (cube : Bool) : Nat → Nat → Nat
  | 0, x => x
  | k + 1, x => forceN (x + 2 ^ k) fun t => match stepE cube t fun q => aboveM q want with
    | true => rootE want cube k x
    | false => rootE want cube k t
theorem rootE_eq (want : List Nat) (cube : Bool) : ∀ k x, rootE want cube k x = rootN want cube k x
  | 0, _ => rfl
  | k + 1, x => by
    unfold rootE rootN
    rw [forceN_eq, stepE_eq, rootE_eq want cube k, rootE_eq want cube k]
def rootQ (cube : Bool) (p : Nat) : Nat := forceL (wantN p cube) fun w => rootE w cube 37 0 % 4294967296
theorem rootQ_eq (cube : Bool) (p : Nat) : rootQ cube p = rootP p cube := by
  unfold rootQ rootP
  rw [forceL_eq, rootE_eq]
set_option maxRecDepth 100000 in
theorem rq2_2 : rootQ false 2 = 1779033703 := by decide +kernel
set_option maxRecDepth 100000 in
theorem rq2_3 : rootQ false 3 = 3144134277 := by decide +kernel
set_option maxRecDepth 100000 in
theorem rq2_5 : rootQ false 5 = 1013904242 := by decide +kernel
set_option maxRecDepth 100000 in
theorem rq2_7 : rootQ false 7 = 2773480762 := by decide +kernel
set_option maxRecDepth 100000 in
theorem rq2_11 : rootQ false 11 = 1359893119 := by decide +kernel
set_option maxRecDepth 100000 in
theorem rq2_13 : rootQ false 13 = 2600822924 := by decide +kernel
set_option maxRecDepth 100000 in
theorem rq2_17 : rootQ false 17 = 528734635 := by decide +kernel
set_option maxRecDepth 100000 in
theorem rq2_19 : rootQ false 19 = 1541459225 := by decide +kernel
set_option maxRecDepth 100000 in
theorem rq3_2 : rootQ true 2 = 1116352408 := by decide +kernel
set_option maxRecDepth 100000 in
theorem rq3_3 : rootQ true 3 = 1899447441 := by decide +kernel
set_option maxRecDepth 100000 in
theorem rq3_5 : rootQ true 5 = 3049323471 := by decide +kernel
set_option maxRecDepth 100000 in
theorem rq3_7 : rootQ true 7 = 3921009573 := by decide +kernel
set_option maxRecDepth 100000 in
theorem rq3_11 : rootQ true 11 = 961987163 := by decide +kernel
set_option maxRecDepth 100000 in
theorem rq3_13 : rootQ true 13 = 1508970993 := by decide +kernel
set_option maxRecDepth 100000 in
theorem rq3_17 : rootQ true 17 = 2453635748 := by decide +kernel
set_option maxRecDepth 100000 in
theorem rq3_19 : rootQ true 19 = 2870763221 := by decide +kernel
set_option maxRecDepth 100000 in
theorem rq3_23 : rootQ true 23 = 3624381080 := by decide +kernel
set_option maxRecDepth 100000 in
theorem rq3_29 : rootQ true 29 = 310598401 := by decide +kernel
set_option maxRecDepth 100000 in
theorem rq3_31 : rootQ true 31 = 607225278 := by decide +kernel
set_option maxRecDepth 100000 in
theorem rq3_37 : rootQ true 37 = 1426881987 := by decide +kernel
set_option maxRecDepth 100000 in
theorem rq3_41 : rootQ true 41 = 1925078388 := by decide +kernel
set_option maxRecDepth 100000 in
theorem rq3_43 : rootQ true 43 = 2162078206 := by decide +kernel
set_option maxRecDepth 100000 in
theorem rq3_47 : rootQ true 47 = 2614888103 := by decide +kernel
set_option maxRecDepth 100000 in
theorem rq3_53 : rootQ true 53 = 3248222580 := by decide +kernel
set_option maxRecDepth 100000 in
theorem rq3_59 : rootQ true 59 = 3835390401 := by decide +kernel
set_option maxRecDepth 100000 in
theorem rq3_61 : rootQ true 61 = 4022224774 := by decide +kernel
set_option maxRecDepth 100000 in
theorem rq3_67 : rootQ true 67 = 264347078 := by decide +kernel
set_option maxRecDepth 100000 in
theorem rq3_71 : rootQ true 71 = 604807628 := by decide +kernel
set_option maxRecDepth 100000 in
theorem rq3_73 : rootQ true 73 = 770255983 := by decide +kernel
set_option maxRecDepth 100000 in
theorem rq3_79 : rootQ true 79 = 1249150122 := by decide +kernel
set_option maxRecDepth 100000 in
theorem rq3_83 : rootQ true 83 = 1555081692 := by decide +kernel
set_option maxRecDepth 100000 in
theorem rq3_89 : rootQ true 89 = 1996064986 := by decide +kernel
set_option maxRecDepth 100000 in
theorem rq3_97 : rootQ true 97 = 2554220882 := by decide +kernel
set_option maxRecDepth 100000 in
theorem rq3_101 : rootQ true 101 = 2821834349 := by decide +kernel
set_option maxRecDepth 100000 in
theorem rq3_103 : rootQ true 103 = 2952996808 := by decide +kernel
set_option maxRecDepth 100000 in
theorem rq3_107 : rootQ true 107 = 3210313671 := by decide +kernel
set_option maxRecDepth 100000 in
theorem rq3_109 : rootQ true 109 = 3336571891 := by decide +kernel
set_option maxRecDepth 100000 in
theorem rq3_113 : rootQ true 113 = 3584528711 := by decide +kernel
set_option maxRecDepth 100000 in
theorem rq3_127 : rootQ true 127 = 113926993 := by decide +kernel
set_option maxRecDepth 100000 in
theorem rq3_131 : rootQ true 131 = 338241895 := by decide +kernel
set_option maxRecDepth 100000 in
theorem rq3_137 : rootQ true 137 = 666307205 := by decide +kernel
set_option maxRecDepth 100000 in
theorem rq3_139 : rootQ true 139 = 773529912 := by decide +kernel
set_option maxRecDepth 100000 in
theorem rq3_149 : rootQ true 149 = 1294757372 := by decide +kernel
set_option maxRecDepth 100000 in
theorem rq3_151 : rootQ true 151 = 1396182291 := by decide +kernel
set_option maxRecDepth 100000 in
theorem rq3_157 : rootQ true 157 = 1695183700 := by decide +kernel
set_option maxRecDepth 100000 in
theorem rq3_163 : rootQ true 163 = 1986661051 := by decide +kernel
set_option maxRecDepth 100000 in
theorem rq3_167 : rootQ true 167 = 2177026350 := by decide +kernel
set_option maxRecDepth 100000 in
theorem rq3_173 : rootQ true 173 = 2456956037 := by decide +kernel
set_option maxRecDepth 100000 in
theorem rq3_179 : rootQ true 179 = 2730485921 := by decide +kernel
set_option maxRecDepth 100000 in
theorem rq3_181 : rootQ true 181 = 2820302411 := by decide +kernel
set_option maxRecDepth 100000 in
theorem rq3_191 : rootQ true 191 = 3259730800 := by decide +kernel
set_option maxRecDepth 100000 in
theorem rq3_193 : rootQ true 193 = 3345764771 := by decide +kernel
set_option maxRecDepth 100000 in
theorem rq3_197 : rootQ true 197 = 3516065817 := by decide +kernel
set_option maxRecDepth 100000 in
theorem rq3_199 : rootQ true 199 = 3600352804 := by decide +kernel
set_option maxRecDepth 100000 in
theorem rq3_211 : rootQ true 211 = 4094571909 := by decide +kernel
set_option maxRecDepth 100000 in
theorem rq3_223 : rootQ true 223 = 275423344 := by decide +kernel
set_option maxRecDepth 100000 in
theorem rq3_227 : rootQ true 227 = 430227734 := by decide +kernel
set_option maxRecDepth 100000 in
theorem rq3_229 : rootQ true 229 = 506948616 := by decide +kernel
set_option maxRecDepth 100000 in
theorem rq3_233 : rootQ true 233 = 659060556 := by decide +kernel
set_option maxRecDepth 100000 in
theorem rq3_239 : rootQ true 239 = 883997877 := by decide +kernel
set_option maxRecDepth 100000 in
theorem rq3_241 : rootQ true 241 = 958139571 := by decide +kernel
set_option maxRecDepth 100000 in
theorem rq3_251 : rootQ true 251 = 1322822218 := by decide +kernel
set_option maxRecDepth 100000 in
theorem rq3_257 : rootQ true 257 = 1537002063 := by decide +kernel
set_option maxRecDepth 100000 in
theorem rq3_263 : rootQ true 263 = 1747873779 := by decide +kernel
set_option maxRecDepth 100000 in
theorem rq3_269 : rootQ true 269 = 1955562222 := by decide +kernel
set_option maxRecDepth 100000 in
theorem rq3_271 : rootQ true 271 = 2024104815 := by decide +kernel
set_option maxRecDepth 100000 in
theorem rq3_277 : rootQ true 277 = 2227730452 := by decide +kernel
set_option maxRecDepth 100000 in
theorem rq3_281 : rootQ true 281 = 2361852424 := by decide +kernel
set_option maxRecDepth 100000 in
theorem rq3_283 : rootQ true 283 = 2428436474 := by decide +kernel
set_option maxRecDepth 100000 in
theorem rq3_293 : rootQ true 293 = 2756734187 := by decide +kernel
set_option maxRecDepth 100000 in
theorem rq3_307 : rootQ true 307 = 3204031479 := by decide +kernel
set_option maxRecDepth 100000 in
theorem rq3_311 : rootQ true 311 = 3329325298 := by decide +kernel
set_option maxRecDepth 100000 in
theorem roots_2 : (p8.map fun p => (rootP p false : Int)) = s8L iv8 := by
  simp only [p8, List.map_cons, List.map_nil, ← rootQ_eq, rq2_2, rq2_3, rq2_5, rq2_7, rq2_11, rq2_13, rq2_17, rq2_19]
  rfl
set_option maxRecDepth 100000 in
theorem roots_3 : (p64.map fun p => (rootP p true : Int)) = kK := by
  simp only [p64, List.map_cons, List.map_nil, ← rootQ_eq, rq3_2, rq3_3, rq3_5, rq3_7, rq3_11, rq3_13, rq3_17, rq3_19, rq3_23, rq3_29, rq3_31, rq3_37, rq3_41, rq3_43, rq3_47, rq3_53, rq3_59, rq3_61, rq3_67, rq3_71, rq3_73, rq3_79, rq3_83, rq3_89, rq3_97, rq3_101, rq3_103, rq3_107, rq3_109, rq3_113, rq3_127, rq3_131, rq3_137, rq3_139, rq3_149, rq3_151, rq3_157, rq3_163, rq3_167, rq3_173, rq3_179, rq3_181, rq3_191, rq3_193, rq3_197, rq3_199, rq3_211, rq3_223, rq3_227, rq3_229, rq3_233, rq3_239, rq3_241, rq3_251, rq3_257, rq3_263, rq3_269, rq3_271, rq3_277, rq3_281, rq3_283, rq3_293, rq3_307, rq3_311]
  rfl
end Go.Proofs.Ytpfjfihfnplhfaa
