/- A slice of strings among a law's arguments, as a row of bytes; a byte's bounds. No conditions beyond those typed. -/
import Derived.Test.YtngcdkbnljoodaaJouX
import Derived.SliceStrings
import Derived.SizedLaws
namespace Go.Proofs.Ytngcdkbnljoodaa
set_option linter.unusedVariables false
set_option linter.unusedSimpArgs false
open Go.RowKit Go.ChangeShapes Go.WideShapes

theorem u8_wf {n : Int} (h : (Lit.int .u8 n).wf = true) : 0 ≤ n ∧ n ≤ 255 := by
  simp [Lit.wf, IntKind.min, IntKind.max, IntKind.signed, IntKind.bits] at h
  omega
theorem weightsAll_mem {H : Type} (P : Program) (e : TypeId) : ∀ (ss : List ByteArray) (s : ByteArray), s ∈ ss → s.data.toList.length ∈ DataW.weightsAll (H := H) P e (strs ss)
  | [], _, h => by cases h
  | a :: ss, s, h => by
    show _ ∈ DataW.weights P e (.lit (.string a.data.toList)) ++ DataW.weightsAll P e (strs ss)
    rcases List.mem_cons.1 h with rfl | h
    · exact List.mem_append_left _ (by simp [DataW.weights])
    · exact List.mem_append_right _ (weightsAll_mem P e ss s h)
theorem bytes_string : Try.prog.bytesOf 9 = 16 := by kernel_rfl
theorem row_strs {H : Type} {enc : TypeId × Value → H} {W : World} {ts : List TypeId} {ds : List (DataW H)} {j : Nat} {d : DataW H} {p : List MemPlace} {a : Option Addr} {len cap : Nat}
    (hsz : (DataW.weightsEach Try.prog ts ds).all (· ≤ reachBytes) = true) (ht : ts[j]? = some 32) (hd : ds[j]? = some d) (h : DataW.Trod enc Try.prog W 0 (fun _ => true) true 32 (.slice a len cap) d p) :
    ∃ l : List Bs, RowS W (.slice a len cap) l ∧ l.length * 16 ≤ 140737488351232 ∧ ∀ x ∈ l, x.length ≤ 140737488351232 := by
  obtain ⟨fuel, hf⟩ := h
  rcases open_strings Try.underlying32 Try.underlying9 (by kernel_rfl) hf with ⟨hcs, hx⟩ | ⟨x, l, c, ss, hcs, _, hl, hm, hz, hx, hcell, hws⟩
  · simp [Value.cells] at hcs
    obtain ⟨rfl, rfl, rfl⟩ := hcs
    exact ⟨[], ⟨none, 0, rfl, fun k x h => by simp at h⟩, by simp, by simp⟩
  · simp [Value.cells] at hcs
    obtain ⟨rfl, rfl, rfl⟩ := hcs
    simp only [Prod.mk.injEq] at hx
    obtain ⟨rfl, rfl⟩ := hx
    simp only [if_true] at hz
    have htk : (ss.take len).length = len := by rw [List.length_take]; omega
    refine ⟨(ss.take len).map (fun s => s.data.toList), ⟨some x, cap, by rw [List.length_map, htk], fun k y hk => ⟨x, rfl, ?_⟩⟩, ?_, ?_⟩
    · rw [List.getElem?_map, Option.map_eq_some_iff] at hk
      obtain ⟨s, hs, rfl⟩ := hk
      have hkl : k < (ss.take len).length := (List.getElem?_eq_some_iff.1 hs).1
      have hks : k < ss.length := by rw [List.length_take] at hkl; omega
      rw [List.getElem?_take_of_lt (by omega)] at hs
      rw [hcell k hks, List.getD_eq_getElem?_getD, hs, strV, mkS_list]
      rfl
    · have h1 := sized_slice hsz ht hd Try.underlying32
      rw [bytes_string] at h1
      simp only [strs, List.length_map, reachBytes] at h1
      rw [List.length_map, htk]
      rw [htk] at h1
      omega
    · intro y hy
      obtain ⟨s, hs, rfl⟩ := List.mem_map.1 hy
      have h2 := List.all_eq_true.1 hsz _ (DataW.weights_mem_each ht hd s.data.toList.length (by
        rw [DataW.weights, Try.underlying32]
        exact List.mem_cons_of_mem _ (List.mem_append_left _ (weightsAll_mem _ _ _ _ hs))))
      exact of_decide_eq_true h2
end Go.Proofs.Ytngcdkbnljoodaa
