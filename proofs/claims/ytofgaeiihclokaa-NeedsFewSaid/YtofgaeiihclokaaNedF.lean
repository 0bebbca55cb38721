/- What the functions of the layers needs and ring that are walked by hand tell, as Lean functions. No conditions. -/
import Derived.Test.YtofgaeiihclokaaP0
import Derived.Lib.SlKeysI
import Derived.Lib.SlicesCompact
namespace Go.Proofs.Ytofgaeiihclokaa.P
open Go.RowKit Go.Proofs.YtofgaeiihclokaaW.PrintWords Go.Proofs.YtofgaeiihclokaaW.PrintLast Go.Proofs.YtofgaeiihclokaaW.PrintMore

/-- The numbers below n of which p holds, rising. -/
def pick (n : Nat) (p : Nat → Bool) : List Int := ((List.range n).filter p).map Int.ofNat
/-- A tie is between two events. -/
def twoB (n : Nat) (t : S48) : Bool := decide (0 ≤ min t.f1 t.f2) && decide (max t.f1 t.f2 < (n : Int))
/-- What is told of some ties, each once, rising. -/
def tiesOf (n : Nat) (l : List S48) (tell : S48 → Int × Bool) : List Int := pick n fun k => l.any fun t => (tell t).2 && twoB n t && decide ((tell t).1 = (k : Int))
def tellB (a : Int) : S48 → Int × Bool := fun t => (t.f1, decide (t.f2 = a) && (decide (t.f0 = 1) || decide (t.f0 = 5)))
def tellC (a : Int) : S48 → Int × Bool := fun t => (t.f2, decide (t.f1 = a) && decide (t.f0 = 2))
def tellK (k : Int) : S48 → Int × Bool := fun t => (t.f2, decide (t.f0 = k))
def needs_Blocks.f (l0_0 : List (S68)) (l0_1 : List (S48)) (a1 : Int) : Option (List Int) := if l0_1.length < 17592186044416 then some (tiesOf l0_0.length l0_1 (tellB a1)) else none
def needs_Calls.f (l0_0 : List (S68)) (l0_1 : List (S48)) (a1 : Int) : Option (List Int) := if l0_1.length < 17592186044416 then some (tiesOf l0_0.length l0_1 (tellC a1)) else none
/-- Two lists as one, each once, rising. -/
def needs_joined_int.f (a b : List Int) : Option (List Int) := if a.length + b.length < 17592186044416 then some (Lib.compact ((a ++ b).mergeSort leI)) else none
/-- The places of the events of which p holds. -/
def eventsOf (l : List (S68)) (p : S68 → Bool) : List Int := pick l.length fun k => p (l.getD k z68)
def needs_Called.f (l0_0 : List (S68)) (l0_1 : List (S48)) : Option (List Int) :=
  if l0_0.length < 8796093022208 ∧ l0_1.length < 8796093022208 then needs_joined_int.f (eventsOf l0_0 fun x => decide (0 ≤ x.f5)) (tiesOf l0_0.length l0_1 (tellK 2)) else none
def needs_Excluded.f (l0_0 : List (S68)) (l0_1 : List (S48)) : Option (List Int) :=
  if l0_0.length < 8796093022208 ∧ l0_1.length < 8796093022208 then needs_joined_int.f (eventsOf l0_0 fun x => !x.f3) (tiesOf l0_0.length l0_1 (tellK 4)) else none
/-- The points to which one leads. -/
def ring_Net_ways.f (l0 : List (List Int)) (a1 : Int) : Option (List Int) :=
  if 0 ≤ a1 ∧ a1 < (l0.length : Int) ∧ (l0.getD a1.toNat []).length < 17592186044416 then some ((l0.getD a1.toNat []).filter fun k => decide (0 ≤ k) && decide (k < (l0.length : Int))) else none
/-- The net of needs. -/
def needs_Net.f (l0_0 : List (S68)) (l0_1 : List (S48)) : Option (List (List Int)) :=
  if l0_0.length < 1099511627776 ∧ l0_1.length < 1099511627776 then some ((List.range l0_0.length).map fun (i : Nat) => Lib.compact ((tiesOf l0_0.length l0_1 (tellB (i : Int)) ++ tiesOf l0_0.length l0_1 (tellC (i : Int))).mergeSort leI)) else none
/-- The net the other way round. -/
def ring_Turn.f (l0 : List (List Int)) : Option (List (List Int)) :=
  if l0.length < 1099511627776 ∧ (l0.all fun l => decide (l.length < 17592186044416)) = true then some ((List.range l0.length).map fun (k : Nat) => pick l0.length fun i => (l0.getD i []).contains (k : Int)) else none
def replevinlaw07_awake.f : Option Bool := some true
def replevinlaw06_awake.f : Option Bool := some true
end Go.Proofs.Ytofgaeiihclokaa.P
