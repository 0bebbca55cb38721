/- Lemmas and contracts for the functions of one layer of the program, used by the law's proof. No conditions beyond those typed. -/
import Derived.Test.YtdphomiljkclbaaDoorOrdA
import Derived.Test.YtdphomiljkclbaaDoorP1
import Derived.Test.YtdphomiljkclbaaDoorWEqStruct
namespace Go.Proofs.YtdphomiljkclbaaDoor
set_option linter.unusedVariables false
set_option linter.unusedSimpArgs false
open Go.RowKit Go.Proofs.YtdphomiljkclbaaDoorW.PrintWords Go.Proofs.YtdphomiljkclbaaDoorW.PrintLast Go.Proofs.YtdphomiljkclbaaDoorW.PrintMore Go.Proofs.YtdphomiljkclbaaDoor.P

section
variable {P : Program} {md : Region.Mode} {ops : Array Oper} {Q : Exit → Act → World → Prop} {S : World → Prop}
/-- The library's wpAnyH_take, the destination named. -/
theorem wpAnyH_take2 {i : Nat} {oi : Oper} {d : Option Tmp} {v : Value} {fuel : Nat} {listed : Array Bool} {a : Act} {w : World} (hi : ops[i]? = some oi) (hd : oi.dst = d)
    (hs : Region.noSelect ops = true) (hf : Region.free md ops listed i = true) (hr : (Region.ready md ops listed).contains i = true)
    (hQ : ∀ c a w, Q (.panic c) (a.put d v) w → Q (.panic c) a w) (hy : YieldsIf P ops S oi v a) (hS : S w)
    (h : wpAnyH P md ops Q S fuel (listed.setIfInBounds i true) (a.put d v) w) : wpAnyH P md ops Q S (fuel + 1) listed a w := by
  subst hd
  exact wpAnyH_take hi hs hf hr hQ hy hS h
end
/-- The words of orders, by their kinds. -/
def wordsB : List ByteArray := [⟨#[]⟩, ⟨#[111, 112, 101, 110]⟩, ⟨#[100, 111]⟩, ⟨#[116, 105, 99, 107]⟩, ⟨#[99, 108, 111, 115, 101]⟩, ⟨#[97, 119, 97, 121]⟩, ⟨#[104, 101, 114, 101]⟩, ⟨#[97, 115, 107]⟩, ⟨#[103, 105, 118, 101]⟩, ⟨#[111, 110]⟩]
def wordB (k : Int) : ByteArray := rdOf ByteArray.empty wordsB k
def partsK (k : Int) : ByteArray := if k = 1 ∨ k = 4 ∨ k = 7 then ⟨#[99]⟩ else if k = 2 then ⟨#[99, 101, 117]⟩ else if k = 3 then ⟨#[110]⟩ else if k = 5 ∨ k = 6 then ⟨#[117]⟩ else ⟨#[]⟩
theorem words_eq : order_words.f = some wordsB := rfl
theorem kinds {p : Int → Prop} (h : p 1 ∧ p 2 ∧ p 3 ∧ p 4 ∧ p 5 ∧ p 6 ∧ p 7 ∧ p 8 ∧ p 9) (k : Int) (h1 : 1 ≤ k) (h9 : k ≤ 9) : p k := by
  obtain ⟨p1, p2, p3, p4, p5, p6, p7, p8, p9⟩ := h
  obtain rfl | rfl | rfl | rfl | rfl | rfl | rfl | rfl | rfl : k = 1 ∨ k = 2 ∨ k = 3 ∨ k = 4 ∨ k = 5 ∨ k = 6 ∨ k = 7 ∨ k = 8 ∨ k = 9 := by omega
  all_goals assumption
theorem parts_eq (k : Int) (h1 : 1 ≤ k) (h9 : k ≤ 9) : order_parts.f 1 (wordB k) = some (partsK k) :=
  kinds (p := fun k => order_parts.f 1 (wordB k) = some (partsK k)) ⟨by kernel_rfl, by kernel_rfl, by kernel_rfl, by kernel_rfl, by kernel_rfl, by kernel_rfl, by kernel_rfl, by kernel_rfl, by kernel_rfl⟩ k h1 h9
theorem partsK_cases (k : Int) : partsK k = ⟨#[99]⟩ ∨ partsK k = ⟨#[99, 101, 117]⟩ ∨ partsK k = ⟨#[110]⟩ ∨ partsK k = ⟨#[117]⟩ ∨ partsK k = ⟨#[]⟩ := by
  unfold partsK
  repeat' split
  all_goals simp
theorem partsK_ascii (k : Int) : ∀ i (h : i < (partsK k).size), ((partsK k)[i]'h).toNat < 128 := by
  obtain h | h | h | h | h := partsK_cases k
  all_goals (rw [h]; decide)
theorem partsK_size (k : Int) : (partsK k).size ≤ 3 := by
  obtain h | h | h | h | h := partsK_cases k
  all_goals (rw [h]; decide)
theorem partsK_bytes (k : Int) : ∀ i (h : i < (partsK k).size), ((partsK k)[i]'h).toNat = 99 ∨ ((partsK k)[i]'h).toNat = 101 ∨ ((partsK k)[i]'h).toNat = 117 ∨ ((partsK k)[i]'h).toNat = 110 := by
  obtain h | h | h | h | h := partsK_cases k
  all_goals (rw [h]; decide)
/-- The text of a part. -/
def textO (o : Ord) (c : Nat) : ByteArray := if (c : Int) = 99 then o.c else if (c : Int) = 101 then o.e else o.u
def mayL (o : Ord) : List UInt8 → Bool
  | [] => true
  | c :: l => ((c.toNat : Int) == 110 || nameR (textO o c.toNat)) && mayL o l
/-- Field by field. -/
def Ord.same (a b : Ord) : Bool := a.k == b.k && (a.c.toList == b.c.toList && (a.e.toList == b.e.toList && (a.u.toList == b.u.toList && (a.n == b.n))))
theorem eqOrd (d : Nat) (w : World) (a b : Ord) : (Op.equalIn (d + 2) 23 (ordV a) (ordV b)).run Tryd.prog w = .ok (a.same b) w := by
  obtain ⟨x0, x1, x2, x3, x4⟩ := a
  obtain ⟨y0, y1, y2, y3, y4⟩ := b
  refine eqA_of Tryd.underlying23 (by kernel_rfl) ?_
  refine eqf_cons (by rfl) (by go_simp; rfl) (by go_simp; rfl) (by go_simp) ?_
  refine eqf_cons (by rfl) (by go_simp; rfl) (by go_simp; rfl) (by go_simp) ?_
  refine eqf_cons (by rfl) (by go_simp; rfl) (by go_simp; rfl) (by go_simp) ?_
  refine eqf_cons (by rfl) (by go_simp; rfl) (by go_simp; rfl) (by go_simp) ?_
  exact eqf_last (by rfl) (by go_simp; rfl) (by go_simp; rfl) (by go_simp)
theorem neOrd (a b : Ord) (w : World) : (binOp .neq 23 (ordV a) (ordV b)).run Tryd.prog w = .ok (.bool (!(a.same b))) w := by
  rw [run_neq_struct]
  have h := eqOrd 9998 w a b
  rw [h]
  rfl
def badO (o : Ord) : Bool := !(o.same (keptO o (partsK o.k))) || (o.k == 3 && (decide (o.n < 1) || decide (1000 < o.n)))
def mayO (o : Ord) : Bool := decide (1 ≤ o.k) && decide (o.k ≤ 9) && !(badO o) && mayL o (partsK o.k).data.toList

end Go.Proofs.YtdphomiljkclbaaDoor
