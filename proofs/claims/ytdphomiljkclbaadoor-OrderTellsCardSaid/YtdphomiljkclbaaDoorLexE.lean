/- Lemmas and contracts for the functions of one layer of the program, used by the law's proof. No conditions beyond those typed. -/
import Derived.Test.YtdphomiljkclbaaDoorLexD
namespace Go.Proofs.YtdphomiljkclbaaDoor
set_option linter.unusedVariables false
set_option linter.unusedSimpArgs false
open Go.RowKit Go.Proofs.YtdphomiljkclbaaDoorW.PrintWords Go.Proofs.YtdphomiljkclbaaDoorW.PrintLast Go.Proofs.YtdphomiljkclbaaDoorW.PrintMore Go.Proofs.YtdphomiljkclbaaDoor.P

/-- Is a text a word? -/
def nameR (s : ByteArray) : Bool := decide (0 < s.size) && decide (s.size ≤ 20) && isLet (bt s 0) && decide (runE isInn s 0 = s.size)

set_option maxHeartbeats 400000 in
theorem Name_any (s : ByteArray) (hs : s.size ≤ 140737488351232) (w : World) :
    Calls Tryd.prog 26 #[.string s] w fun e w' => e = .returned (.bool (nameR s)) ∧ w = w' := by
  have HN : Hid (nameR s = (decide (0 < s.size) && decide (s.size ≤ 20) && isLet (bt s 0) && decide (runE isInn s 0 = s.size))) := rfl
  by_cases h0 : 0 < s.size
  · have hne : s.toList.isEmpty = false := by
      rw [ByteArray.toList_eq, List.isEmpty_eq_false_iff]
      intro h
      have : s.data.toList.length = 0 := by rw [h]; rfl
      rw [data_length] at this
      omega
    have hb : ((s[0].toNat : Nat) : Int) = bt s 0 := by simp [bt, h0]
    by_cases h1 : s.size ≤ 20
    · cases h2 : isLet (bt s 0)
      · go_enter Tryd.func26, Tryd.ntmps26
        go_wp2_with (first | (go_at_call 33; refine (letter_any _ _).mono ?_; rintro e w' ⟨rfl, rfl⟩))
        go_ret
        exact ⟨by rw [HN.out, h2]; simp, rfl⟩
      · have hr := Lib.hid (run_inner s 0 (by omega) (by omega))
        have HR : Hid (decide (runE isInn s 0 = s.size) = ((runE isInn s 0 : Int) == s.size)) := by
          show _ = _
          rw [Bool.eq_iff_iff]; simp; omega
        generalize runE isInn s 0 = j at *
        go_enter Tryd.func26, Tryd.ntmps26
        go_wp2_with (first | (go_at_call 33; refine (letter_any _ _).mono ?_; rintro e w' ⟨rfl, rfl⟩) | (go_at_call 34; refine (hr.out _).mono ?_; rintro e w' ⟨rfl, rfl⟩))
        go_ret
        exact ⟨by rw [HN.out, h2, HR.out]; simp [h0, h1], rfl⟩
    · go_enter Tryd.func26, Tryd.ntmps26
      go_wp2
      go_ret
      exact ⟨by rw [HN.out]; simp [h1], rfl⟩
  · have hne : s.toList.isEmpty = true := by
      rw [ByteArray.toList_eq, List.isEmpty_iff]
      apply List.eq_nil_of_length_eq_zero
      rw [data_length]
      omega
    go_enter Tryd.func26, Tryd.ntmps26
    go_wp2
    go_ret
    exact ⟨by rw [HN.out]; simp [h0], rfl⟩
end Go.Proofs.YtdphomiljkclbaaDoor
