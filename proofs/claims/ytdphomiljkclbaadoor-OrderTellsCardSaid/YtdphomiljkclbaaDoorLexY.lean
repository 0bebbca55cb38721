/- Lemmas and contracts for the functions of one layer of the program, used by the law's proof. No conditions beyond those typed. -/
import Derived.Test.YtdphomiljkclbaaDoorLexE
namespace Go.Proofs.YtdphomiljkclbaaDoor.P
set_option linter.unusedVariables false
set_option linter.unusedSimpArgs false
open Go.RowKit Go.Proofs.YtdphomiljkclbaaDoorW.PrintWords Go.Proofs.YtdphomiljkclbaaDoorW.PrintLast Go.Proofs.YtdphomiljkclbaaDoorW.PrintMore Go.Proofs.YtdphomiljkclbaaDoor

def lex_Lex.f (a0 : ByteArray) : Option (List S47 × Int × Int) := if a0.size ≤ 140737488351232 then some (lexR a0) else none
theorem lex_Lex.calls (a0 : ByteArray) (r1 : List S47) (r2 r3 : Int) (w : World) (h : lex_Lex.f a0 = some (r1, r2, r3)) :
    Calls Tryd.prog 19 #[.string a0] w fun e w' => ∃ v0_ : Value, e = .returned (.tuple #[v0_, .int .i64 r2, .int .i64 r3]) ∧ Kd.R k47 47 w' w.heap.size (fun _ => True) v0_ r1 ∧ Below w.heap.size w w' := by
  unfold lex_Lex.f at h
  split at h
  · rename_i hs
    have h' : lexR a0 = (r1, r2, r3) := Option.some.inj h
    have := Lex_any a0 hs w
    rw [h'] at this
    exact this
  · cases h
def lex_Name.f (a0 : ByteArray) : Option Bool := if a0.size ≤ 140737488351232 then some (nameR a0) else none
theorem lex_Name.calls (a0 : ByteArray) (r : Bool) (w : World) (h : lex_Name.f a0 = some r) :
    Calls Tryd.prog 26 #[.string a0] w fun e w' => e = .returned (.bool r) ∧ Drawn0 w w' := by
  unfold lex_Name.f at h
  split at h
  · rename_i hs
    obtain rfl := Option.some.inj h
    exact (Name_any a0 hs w).mono fun e w' ⟨he, hw⟩ => ⟨he, hw ▸ Drawn0.refl _⟩
  · cases h
end Go.Proofs.YtdphomiljkclbaaDoor.P
