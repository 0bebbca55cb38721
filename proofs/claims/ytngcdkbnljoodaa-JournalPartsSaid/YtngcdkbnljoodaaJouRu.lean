/- A slice of bytes among a law's arguments, as a row of numbers. No conditions beyond those typed. -/
import Derived.Test.YtngcdkbnljoodaaJouPc
import Derived.Test.YtngcdkbnljoodaaJouRw
import Derived.ChangeSlices
namespace Go.Proofs.Ytngcdkbnljoodaa
set_option linter.unusedVariables false
set_option linter.unusedSimpArgs false
open Go.RowKit Go.ChangeShapes Go.WideShapes

theorem bytes_u8 : Try.prog.bytesOf 5 = 1 := by kernel_rfl
theorem row_u8s {H : Type} {enc : TypeId × Value → H} {W : World} {ts : List TypeId} {ds : List (DataW H)} {j : Nat} {d : DataW H} {p : List MemPlace} {a : Option Addr} {len cap : Nat}
    (hsz : (DataW.weightsEach Try.prog ts ds).all (· ≤ reachBytes) = true) (ht : ts[j]? = some 56) (hd : ds[j]? = some d) (h : DataW.Trod enc Try.prog W 0 (fun _ => true) true 56 (.slice a len cap) d p) :
    ∃ l : List Int, RowU W (.slice a len cap) l ∧ l.length ≤ 140737488351232 ∧ ∀ x ∈ l, 0 ≤ x ∧ x ≤ 255 := by
  obtain ⟨fuel, hf⟩ := h
  rcases open_ints Try.underlying56 Try.underlying5 (by kernel_rfl) hf with ⟨hcs, hx⟩ | ⟨x, l, c, zs, hcs, _, hl, hm, hz, hx, hcell, hws⟩
  · simp [Value.cells] at hcs
    obtain ⟨rfl, rfl, rfl⟩ := hcs
    exact ⟨[], ⟨none, 0, rfl, fun k x h => by simp at h⟩, by simp, by simp⟩
  · simp [Value.cells] at hcs
    obtain ⟨rfl, rfl, rfl⟩ := hcs
    simp only [Prod.mk.injEq] at hx
    obtain ⟨rfl, rfl⟩ := hx
    simp only [if_true] at hz
    have htk : (zs.take len).length = len := by rw [List.length_take]; omega
    refine ⟨zs.take len, ⟨some x, cap, by rw [htk], fun k y hk => ⟨x, rfl, ?_⟩⟩, ?_, ?_⟩
    · have hkl : k < (zs.take len).length := (List.getElem?_eq_some_iff.1 hk).1
      have hks : k < zs.length := by rw [List.length_take] at hkl; omega
      rw [List.getElem?_take_of_lt (by omega)] at hk
      rw [hcell k hks, List.getD_eq_getElem?_getD, hk]
      rfl
    · have h1 := sized_slice hsz ht hd Try.underlying56
      rw [bytes_u8] at h1
      simp only [lits, List.length_map, reachBytes] at h1
      rw [htk]
      rw [htk] at h1
      omega
    · intro y hy
      exact u8_wf (hws y (List.mem_of_mem_take hy))
end Go.Proofs.Ytngcdkbnljoodaa
