/- Lemmas and contracts for the functions of one layer of the program, used by the law's proof. No conditions beyond those typed. -/
import Derived.Test.YtaempeleddamlaaLexH
namespace Go.Proofs.Ytaempeleddamlaa.P
set_option linter.unusedVariables false
set_option linter.unusedSimpArgs false
open Go.RowKit Go.Proofs.YtaempeleddamlaaW.PrintWords Go.Proofs.YtaempeleddamlaaW.PrintLast Go.Proofs.YtaempeleddamlaaW.PrintMore Go.Proofs.Ytaempeleddamlaa

def lex_Lex.f (a0 : ByteArray) : Option (List S35 × Int × Int) := if a0.size ≤ 140737488351232 then some (lexR a0) else none
theorem lex_Lex.calls (a0 : ByteArray) (r1 : List S35) (r2 r3 : Int) (w : World) (h : lex_Lex.f a0 = some (r1, r2, r3)) :
    Calls Try.prog 9 #[.string a0] w fun e w' => ∃ v0_ : Value, e = .returned (.tuple #[v0_, .int .i64 r2, .int .i64 r3]) ∧ Kd.R k35 35 w' w.heap.size (fun _ => True) v0_ r1 ∧ Below w.heap.size w w' := by
  unfold lex_Lex.f at h
  split at h
  · rename_i hs
    have h' : lexR a0 = (r1, r2, r3) := Option.some.inj h
    have := Lex_any a0 hs w
    rw [h'] at this
    exact this
  · cases h
def lex_Name.f (a0 : ByteArray) : Option Bool := if a0.size ≤ 140737488351232 then some (nameR a0) else none
theorem lex_Name.calls (a0 : ByteArray) (r : Bool) (w : World) (h : lex_Name.f a0 = some r) :
    Calls Try.prog 13 #[.string a0] w fun e w' => e = .returned (.bool r) ∧ Drawn0 w w' := by
  unfold lex_Name.f at h
  split at h
  · rename_i hs
    obtain rfl := Option.some.inj h
    exact (Name_any a0 hs w).mono fun e w' ⟨he, hw⟩ => ⟨he, hw ▸ Drawn0.refl _⟩
  · cases h
def lex_Join.f (l0 : List S35) : Option ByteArray := if (joinL true l0).length ≤ 140737488355328 then some ⟨(joinL true l0).toArray⟩ else none
theorem lex_Join.calls (A0 : Option Addr) (c0 : Nat) (l0 : List S35) (r : ByteArray) (w : World) (hr0 : Kd.C k35 w A0 l0.length l0) (hc0 : l0.length ≤ c0) (h : lex_Join.f l0 = some r) :
    Calls Try.prog 15 #[.slice A0 l0.length c0] w fun e w' => e = .returned (.string r) ∧ Below w.heap.size w w' := by
  unfold lex_Join.f at h
  split at h
  · rename_i hs
    obtain rfl := Option.some.inj h
    exact Join_any A0 c0 l0 w hr0 hc0 hs
  · cases h
def replevinlaw01_awake.f : Option Bool := some true
theorem replevinlaw01_awake.calls (r : Bool) (w : World) (h : replevinlaw01_awake.f = some r) :
    Calls Try.prog 8 #[] w fun e w' => e = .returned (.bool r) ∧ Below w.heap.size w w' := by
  obtain rfl := Option.some.inj h
  exact awake_any w
end Go.Proofs.Ytaempeleddamlaa.P
