/-
  WHAT IS PROVED HERE: a body's post under a name that the walk does not open (a panic is shown not to be). No condition.
-/
import Derived.Test.YtnaindoeihnmpaaDoorBase
namespace Go.Proofs.YtnaindoeihnmpaaDoor
open Go.RowKit

/-- what a body's post asks at a return: the post itself under a name that the walk does not open -/
def Ends (P : Program) (fn : Func) (R : Ending → World → Prop) (Q : Exit → Act → World → Prop) : Prop :=
  ∀ (a : Act) (w : World) (v : Value), a.defers = [] → (results fn a.tmps).run P w = .ok v w → R (.returned v) w → Q .ret a w ∧ Q .normal a w
section
variable {P : Program} {fn : Func} {R : Ending → World → Prop} {Q : Exit → Act → World → Prop} {a : Act} {w : World} {v : Value}
theorem ends_ret (hQ : Hid (Ends P fn R Q)) (hr : (results fn a.tmps).run P w = .ok v w) (hd : a.defers = []) (hR : R (.returned v) w) : NoPanic Q .ret a w := (hQ.out a w v hd hr hR).1
theorem ends_end (hQ : Hid (Ends P fn R Q)) (hr : (results fn a.tmps).run P w = .ok v w) (hd : a.defers = []) (hR : R (.returned v) w) : NoPanic Q .normal a w := (hQ.out a w v hd hr hR).2
theorem calls_of_wpQ {f : FuncId} {c : Code} {args : Array Value}
    (hf : P.funcs[f]? = some fn) (hb : fn.body = some c)
    (h : ∀ Q, Hid (Ends P fn R Q) → c.wp P (NoPanic Q) { tmps := args ++ Array.replicate (fn.ntmps - args.size) undef, defers := [] } w) :
    Calls P f args w R := calls_of_wp hf hb (Code.wp_mono NoPanic.imp (h _ (fun _ _ v hd hr hR => ⟨⟨hd, v, hr, hR⟩, ⟨hd, v, hr, hR⟩⟩)))
end
end Go.Proofs.YtnaindoeihnmpaaDoor
