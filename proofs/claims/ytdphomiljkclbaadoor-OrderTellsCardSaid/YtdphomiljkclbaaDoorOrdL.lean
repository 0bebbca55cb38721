/- Lemmas and contracts for the functions of one layer of the document's answer, used by the law's proof. No conditions beyond those typed. -/
import Derived.Test.YtdphomiljkclbaaDoorOrdG
import Derived.Test.YtdphomiljkclbaaDoorOrdN
import Derived.Test.YtdphomiljkclbaaDoorP2
namespace Go.Proofs.YtdphomiljkclbaaDoor
set_option linter.unusedVariables false
set_option linter.unusedSimpArgs false
open Go.RowKit Go.Proofs.YtdphomiljkclbaaDoorW.PrintWords Go.Proofs.YtdphomiljkclbaaDoorW.PrintLast Go.Proofs.YtdphomiljkclbaaDoorW.PrintMore Go.Proofs.YtdphomiljkclbaaDoor.P

def emp (s : ByteArray) : Bool := s.toList == ([] : List UInt8)
def bareO (o : Ord) : Bool := emp o.e && o.n == 0
def b5O (o : Ord) : Bool := nameR o.c && (emp o.u && bareO o)
def b6O (o : Ord) : Bool := nameR o.u && (emp o.c && bareO o)
def b7O (o : Ord) : Bool := emp o.c && (emp o.u && bareO o)
theorem emp_t {s : ByteArray} (h : emp s = true) : s = ⟨#[]⟩ := by
  unfold emp at h
  rw [beq_iff_eq, Lib.toList_data] at h
  exact ByteArray.ext (Array.toList_inj.1 h)
theorem nil_toList : (⟨#[]⟩ : ByteArray).toList = [] := by rw [Lib.toList_data]
theorem may_c {k : Int} (hk : k = 1 ∨ k = 4 ∨ k = 7) (c e u : ByteArray) (n : Int) : mayO ⟨k, c, e, u, n⟩ = b5O ⟨k, c, e, u, n⟩ := by
  rcases hk with rfl | rfl | rfl
  all_goals
    unfold mayO badO b5O bareO emp
    simp [keptO, keptL, putO, partsK, mayL, textO, Ord.same, nil_toList]
    (try generalize c.toList.isEmpty = x1); (try generalize e.toList.isEmpty = x2); (try generalize u.toList.isEmpty = x3); (try generalize (n == 0) = x4); (try generalize nameR c = x5); (try generalize nameR e = x6); (try generalize nameR u = x7); (try generalize decide (1 ≤ n) = x8); (try generalize decide (n ≤ 1000) = x9)
    cases x5 <;> cases x2 <;> cases x3 <;> cases x4 <;> rfl
theorem may_u {k : Int} (hk : k = 5 ∨ k = 6) (c e u : ByteArray) (n : Int) : mayO ⟨k, c, e, u, n⟩ = b6O ⟨k, c, e, u, n⟩ := by
  rcases hk with rfl | rfl
  all_goals
    unfold mayO badO b6O bareO emp
    simp [keptO, keptL, putO, partsK, mayL, textO, Ord.same, nil_toList]
    (try generalize c.toList.isEmpty = x1); (try generalize e.toList.isEmpty = x2); (try generalize u.toList.isEmpty = x3); (try generalize (n == 0) = x4); (try generalize nameR c = x5); (try generalize nameR e = x6); (try generalize nameR u = x7); (try generalize decide (1 ≤ n) = x8); (try generalize decide (n ≤ 1000) = x9)
    cases x7 <;> cases x2 <;> cases x1 <;> cases x4 <;> rfl
theorem may_z {k : Int} (hk : k = 8 ∨ k = 9) (c e u : ByteArray) (n : Int) : mayO ⟨k, c, e, u, n⟩ = b7O ⟨k, c, e, u, n⟩ := by
  rcases hk with rfl | rfl
  all_goals
    unfold mayO badO b7O bareO emp
    simp [keptO, keptL, putO, partsK, mayL, textO, Ord.same, nil_toList]
    (try generalize c.toList.isEmpty = x1); (try generalize e.toList.isEmpty = x2); (try generalize u.toList.isEmpty = x3); (try generalize (n == 0) = x4); (try generalize nameR c = x5); (try generalize nameR e = x6); (try generalize nameR u = x7); (try generalize decide (1 ≤ n) = x8); (try generalize decide (n ≤ 1000) = x9)
    cases x1 <;> cases x2 <;> cases x3 <;> cases x4 <;> rfl
theorem may_2 (c e u : ByteArray) (n : Int) : mayO ⟨2, c, e, u, n⟩ = (nameR c && (nameR e && (nameR u && n == 0))) := by
  unfold mayO badO
  simp [keptO, keptL, putO, partsK, mayL, textO, Ord.same, nil_toList]
  (try generalize c.toList.isEmpty = x1); (try generalize e.toList.isEmpty = x2); (try generalize u.toList.isEmpty = x3); (try generalize (n == 0) = x4); (try generalize nameR c = x5); (try generalize nameR e = x6); (try generalize nameR u = x7); (try generalize decide (1 ≤ n) = x8); (try generalize decide (n ≤ 1000) = x9)
  cases x5 <;> cases x6 <;> cases x7 <;> cases x4 <;> rfl
theorem may_3 (c e u : ByteArray) (n : Int) : mayO ⟨3, c, e, u, n⟩ = (emp c && (emp u && (emp e && (decide (1 ≤ n) && decide (n ≤ 1000))))) := by
  unfold mayO badO emp
  simp [keptO, keptL, putO, partsK, mayL, textO, Ord.same, nil_toList]
  have a1 : decide (1 ≤ n) = !decide (n < 1) := by
    by_cases h : n < 1
    · rw [decide_eq_true h, decide_eq_false (by omega)]; rfl
    · rw [decide_eq_false h, decide_eq_true (by omega)]; rfl
  have a2 : decide (n ≤ 1000) = !decide (1000 < n) := by
    by_cases h : 1000 < n
    · rw [decide_eq_true h, decide_eq_false (by omega)]; rfl
    · rw [decide_eq_false h, decide_eq_true (by omega)]; rfl
  rw [a1, a2]
  (try generalize c.toList.isEmpty = x1); (try generalize e.toList.isEmpty = x2); (try generalize u.toList.isEmpty = x3)
  generalize decide (n < 1) = x8
  generalize decide (1000 < n) = x9
  cases x1 <;> cases x2 <;> cases x3 <;> cases x8 <;> cases x9 <;> rfl
theorem may_no {k : Int} (hk : ¬ (1 ≤ k ∧ k ≤ 9)) (c e u : ByteArray) (n : Int) : mayO ⟨k, c, e, u, n⟩ = false := by
  unfold mayO
  rcases Int.lt_or_le k 1 with h | h
  · rw [decide_eq_false (show ¬ 1 ≤ k by omega)]; simp
  · rw [decide_eq_false (show ¬ k ≤ 9 by omega)]; simp
theorem body_1 (c e u : ByteArray) (n : Int) : body ⟨1, c, e, u, n⟩ = ⟨#[111, 112, 101, 110, 32]⟩ ++ c := by
  have h : body ⟨1, c, e, u, n⟩ = ⟨#[111, 112, 101, 110]⟩ ++ (⟨#[32]⟩ ++ c ++ ⟨#[]⟩) := rfl
  rw [h, app_nil, ← ByteArray.append_assoc]
  rfl
theorem body_4 (c e u : ByteArray) (n : Int) : body ⟨4, c, e, u, n⟩ = ⟨#[99, 108, 111, 115, 101, 32]⟩ ++ c := by
  have h : body ⟨4, c, e, u, n⟩ = ⟨#[99, 108, 111, 115, 101]⟩ ++ (⟨#[32]⟩ ++ c ++ ⟨#[]⟩) := rfl
  rw [h, app_nil, ← ByteArray.append_assoc]
  rfl
theorem body_5 (c e u : ByteArray) (n : Int) : body ⟨5, c, e, u, n⟩ = ⟨#[97, 119, 97, 121, 32]⟩ ++ u := by
  have h : body ⟨5, c, e, u, n⟩ = ⟨#[97, 119, 97, 121]⟩ ++ (⟨#[32]⟩ ++ u ++ ⟨#[]⟩) := rfl
  rw [h, app_nil, ← ByteArray.append_assoc]
  rfl
theorem body_6 (c e u : ByteArray) (n : Int) : body ⟨6, c, e, u, n⟩ = ⟨#[104, 101, 114, 101, 32]⟩ ++ u := by
  have h : body ⟨6, c, e, u, n⟩ = ⟨#[104, 101, 114, 101]⟩ ++ (⟨#[32]⟩ ++ u ++ ⟨#[]⟩) := rfl
  rw [h, app_nil, ← ByteArray.append_assoc]
  rfl
theorem body_7 (c e u : ByteArray) (n : Int) : body ⟨7, c, e, u, n⟩ = ⟨#[97, 115, 107, 32]⟩ ++ c := by
  have h : body ⟨7, c, e, u, n⟩ = ⟨#[97, 115, 107]⟩ ++ (⟨#[32]⟩ ++ c ++ ⟨#[]⟩) := rfl
  rw [h, app_nil, ← ByteArray.append_assoc]
  rfl
theorem body_2 (c e u : ByteArray) (n : Int) : body ⟨2, c, e, u, n⟩ = ⟨#[100, 111, 32]⟩ ++ c ++ ⟨#[32]⟩ ++ e ++ ⟨#[32]⟩ ++ u := by
  have h : body ⟨2, c, e, u, n⟩ = ⟨#[100, 111]⟩ ++ (⟨#[32]⟩ ++ c ++ (⟨#[32]⟩ ++ e ++ (⟨#[32]⟩ ++ u ++ ⟨#[]⟩))) := rfl
  rw [h, app_nil]
  simp only [← ByteArray.append_assoc]
  rfl
theorem body_3 (c e u : ByteArray) (n : Int) : body ⟨3, c, e, u, n⟩ = ⟨#[116, 105, 99, 107, 32]⟩ ++ ⟨(Lib.itoa n).toArray⟩ := by
  have h : body ⟨3, c, e, u, n⟩ = ⟨#[116, 105, 99, 107]⟩ ++ (⟨#[32]⟩ ++ ⟨(Lib.itoa n).toArray⟩ ++ ⟨#[]⟩) := rfl
  rw [h, app_nil, ← ByteArray.append_assoc]
  rfl
theorem body_8 (c e u : ByteArray) (n : Int) : body ⟨8, c, e, u, n⟩ = ⟨#[103, 105, 118, 101]⟩ := app_nil _
theorem body_9 (c e u : ByteArray) (n : Int) : body ⟨9, c, e, u, n⟩ = ⟨#[111, 110]⟩ := app_nil _
def digChk (n : Nat) : Bool := match replevinref15_digits.f 6 (n : Int) with | some s => s.data.toList == dd 4 n | none => false
theorem digChk_all : (List.range 1001).all digChk = true := by kernel_rfl
theorem digits_eq (n : Int) (h1 : 1 ≤ n) (h2 : n ≤ 1000) : replevinref15_digits.f 6 n = some ⟨(Lib.itoa n).toArray⟩ := by
  have e : Lib.itoa n = dd 4 n.toNat := by
    unfold Lib.itoa
    rw [if_neg (by omega), dd_eq 4 _ (by omega) (by omega)]
  have hc := List.all_eq_true.1 digChk_all n.toNat (by rw [List.mem_range]; omega)
  have hn : ((n.toNat : Nat) : Int) = n := by omega
  unfold digChk at hc
  rw [hn] at hc
  rw [e]
  cases h : replevinref15_digits.f 6 n with
  | none => rw [h] at hc; cases hc
  | some s =>
    rw [h] at hc
    simp only [beq_iff_eq] at hc
    rw [← hc]
theorem writeR_yes {o : Ord} (h : mayO o = true) : writeR o = (body o ++ ⟨#[59]⟩, 0) := by unfold writeR; rw [h, ← text_body]; rfl
theorem writeR_no {o : Ord} (h : mayO o = false) : writeR o = (⟨#[]⟩, 2) := by unfold writeR; rw [h]; rfl
end Go.Proofs.YtdphomiljkclbaaDoor
