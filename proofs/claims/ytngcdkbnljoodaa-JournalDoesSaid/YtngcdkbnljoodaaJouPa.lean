/- JournalParts' walk: its parts. No conditions beyond those typed. -/
import Derived.Test.YtngcdkbnljoodaaJouAg
namespace Go.Proofs.Ytngcdkbnljoodaa
set_option linter.unusedVariables false
set_option linter.unusedSimpArgs false
open Go.RowKit Go.Proofs.YtngcdkbnljoodaaW.PrintWords

/-- Another part's bytes stay. -/
theorem Turned.other {s s' : St} {pf nb pf2 nb2 : Nat} {P : Bs} (hs : s.Wf) (h : s.Has pf nb) (hP : P.length = 32 * nb) (t : Turned s s' pf nb P) (h2 : s.Has pf2 nb2) (hd : pf2 + nb2 ≤ pf ∨ pf + nb ≤ pf2) : partB s' pf2 nb2 = partB s pf2 nb2 := by
  have hlen := hs.len
  have hh := h.2
  have hh2 := h2.2
  have hl : (s.bs.take (32 * pf)).length = 32 * pf := by rw [List.length_take]; omega
  unfold partB
  rw [t.bs]
  rcases hd with hd | hd
  · rw [List.append_assoc, List.drop_append_of_le_length (by omega), List.take_append_of_le_length (by rw [List.length_drop]; omega), List.drop_take, List.take_take, Nat.min_eq_left (by omega)]
  · rw [List.drop_append, List.drop_of_length_le (by rw [List.length_append]; omega), List.nil_append, List.length_append, hl, hP, List.drop_drop]
    congr 2
    omega
theorem Sound.other {s s' : St} {pf nb pf2 nb2 : Nat} {P : Bs} {l : List Bs} (h : s.Has pf nb) (hP : P.length = 32 * nb) (t : Turned s s' pf nb P) (h2 : Sound s pf2 nb2 l) (hd : pf2 + nb2 ≤ pf ∨ pf + nb ≤ pf2) : Sound s' pf2 nb2 l :=
  ⟨t.wf, ⟨h2.has.1, by rw [t.n]; exact h2.has.2⟩, h2.ok, h2.fits, by rw [t.other h2.wf h hP h2.has hd]; exact h2.eq⟩
end Go.Proofs.Ytngcdkbnljoodaa
