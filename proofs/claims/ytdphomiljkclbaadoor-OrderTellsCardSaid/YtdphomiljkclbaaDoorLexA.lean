/- Lemmas and contracts for the functions of one layer of the program, used by the law's proof. No conditions beyond those typed. -/
import Derived.Test.YtdphomiljkclbaaDoorP0
import Derived.WalkSpells
import Derived.WalkLawsBesides
import Derived.Lib.Hide
namespace Go.Proofs.YtdphomiljkclbaaDoor
set_option linter.unusedVariables false
set_option linter.unusedSimpArgs false
open Go.RowKit Go.Proofs.YtdphomiljkclbaaDoorW.PrintWords Go.Proofs.YtdphomiljkclbaaDoorW.PrintLast Go.Proofs.YtdphomiljkclbaaDoorW.PrintMore Go.Proofs.YtdphomiljkclbaaDoor.P

def isLet (c : Int) : Bool := decide (97 ≤ c) && decide (c ≤ 122)
def isDig (c : Int) : Bool := decide (48 ≤ c) && decide (c ≤ 57)
def isInn (c : Int) : Bool := isLet c || isDig c || c == 95

theorem letter_any (c : Int) (w : World) :
    Calls Tryd.prog 33 #[.int .u8 c] w fun e w' => e = .returned (.bool (isLet c)) ∧ w = w' := by
  unfold isLet
  go_enter Tryd.func33, Tryd.ntmps33
  by_cases h : 97 ≤ c
  all_goals
    go_wp2
    go_ret
    exact ⟨by first | (simp [h]; done) | (simp [h]; omega), rfl⟩
theorem digit_any (c : Int) (w : World) :
    Calls Tryd.prog 39 #[.int .u8 c] w fun e w' => e = .returned (.bool (isDig c)) ∧ w = w' := by
  unfold isDig
  go_enter Tryd.func39, Tryd.ntmps39
  by_cases h : 48 ≤ c
  all_goals
    go_wp2
    go_ret
    exact ⟨by first | (simp [h]; done) | (simp [h]; omega), rfl⟩
theorem inner_any (c : Int) (w : World) :
    Calls Tryd.prog 35 #[.int .u8 c] w fun e w' => e = .returned (.bool (isInn c)) ∧ w = w' := by
  have hl : isInn c = (isLet c || isDig c || c == 95) := rfl
  have HL := Lib.hid hl
  clear hl
  go_enter Tryd.func35, Tryd.ntmps35
  cases h1 : isLet c <;> cases h2 : isDig c
  all_goals
    go_wp2_with (first | (go_at_call 33; refine (letter_any _ _).mono ?_; rintro e w' ⟨rfl, rfl⟩) | (go_at_call 39; refine (digit_any _ _).mono ?_; rintro e w' ⟨rfl, rfl⟩))
    go_ret
    exact ⟨by rw [HL.out, h1, h2]; simp, rfl⟩

/-- How far bytes of a kind go from a place on. -/
def runN (p : Int → Bool) (s : ByteArray) : Nat → Nat → Nat
  | 0, i => i
  | n + 1, i => if i < s.size ∧ p (bt s i) = true then runN p s n (i + 1) else i
def runE (p : Int → Bool) (s : ByteArray) (i : Nat) : Nat := runN p s (s.size - i) i

theorem runE_step {p : Int → Bool} {s : ByteArray} {i : Nat} (h : i < s.size) (hp : p (bt s i) = true) : runE p s i = runE p s (i + 1) := by
  unfold runE
  obtain ⟨n, hn⟩ : ∃ n, s.size - i = n + 1 := ⟨s.size - i - 1, by omega⟩
  rw [hn, show s.size - (i + 1) = n by omega]
  simp [runN, h, hp]
theorem runE_stop {p : Int → Bool} {s : ByteArray} {i : Nat} (h : ¬ (i < s.size ∧ p (bt s i) = true)) : runE p s i = i := by
  unfold runE
  cases hn : s.size - i with
  | zero => rfl
  | succ n => simp only [runN]; rw [if_neg h]

set_option maxHeartbeats 400000 in
theorem run_any (f : Nat) (p : Int → Bool) (hf : ∀ (c : Int) (w : World), Calls Tryd.prog f #[.int .u8 c] w fun e w' => e = .returned (.bool (p c)) ∧ w = w')
    (hc : ∀ (args : Array Value) (w : World), Sem.run Tryd.prog (callFunc f args) w = .ok (.enter f args) w)
    (s : ByteArray) (i : Nat) (hi : i ≤ s.size) (hs : s.size ≤ 9223372036854775807) (w : World) :
    Calls Tryd.prog 34 #[.string s, .int .i64 i, .func (.func f) #[] #[]] w fun e w' => e = .returned (.int .i64 (runE p s i)) ∧ w = w' := by
  have hf' := Lib.hid hf
  clear hf
  go_enter Tryd.func34, Tryd.ntmps34
  go_wp2
  go_loop [1] (fun t => ∃ k : Nat, k ≤ s.size ∧ t = .int .i64 k ∧ Aside0 (runE p s k = runE p s i)) (fun t => s.size - (intOf t).toNat)
  case atStart => exact ⟨i, hi, rfl, ⟨rfl⟩⟩
  case round =>
    obtain ⟨k, hk, rfl, HR⟩ := hrel
    by_cases hlt : k < s.size
    · have hb : ((s[k].toNat : Nat) : Int) = bt s k := by simp [bt, hlt]
      cases hp : p (bt s k)
      · have HR2 := Aside0.mk (runE_stop (p := p) (s := s) (i := k) (by simp [hp]))
        go_wp2_with (refine (hf'.out _ _).mono ?_; rintro e w' ⟨rfl, rfl⟩)
        go_ret
        exact ⟨by rw [← HR.out, HR2.out]; rfl, rfl⟩
      · have HR2 := Aside0.mk (runE_step hlt hp)
        go_wp2_with (refine (hf'.out _ _).mono ?_; rintro e w' ⟨rfl, rfl⟩)
        go_round
        case rel => exact ⟨k + 1, by omega, by go_num, ⟨by rw [← HR2.out, HR.out]⟩⟩
        case measure => simp [intOf]; omega
    · have HR2 := Aside0.mk (runE_stop (p := p) (s := s) (i := k) (by simp [hlt]))
      go_wp2
      go_ret
      exact ⟨by rw [← HR.out, HR2.out]; rfl, rfl⟩
theorem run_inner (s : ByteArray) (i : Nat) (hi : i ≤ s.size) (hs : s.size ≤ 9223372036854775807) (w : World) :
    Calls Tryd.prog 34 #[.string s, .int .i64 i, .func (.func 35) #[] #[]] w fun e w' => e = .returned (.int .i64 (runE isInn s i)) ∧ w = w' :=
  run_any _ _ inner_any (fun _ _ => by go_simp) s i hi hs w
theorem run_digit (s : ByteArray) (i : Nat) (hi : i ≤ s.size) (hs : s.size ≤ 9223372036854775807) (w : World) :
    Calls Tryd.prog 34 #[.string s, .int .i64 i, .func (.func 39) #[] #[]] w fun e w' => e = .returned (.int .i64 (runE isDig s i)) ∧ w = w' :=
  run_any _ _ digit_any (fun _ _ => by go_simp) s i hi hs w
end Go.Proofs.YtdphomiljkclbaaDoor
