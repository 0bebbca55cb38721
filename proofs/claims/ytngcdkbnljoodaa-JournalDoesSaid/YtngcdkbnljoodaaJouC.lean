/- The plain part for a journal: what stands behind an append, an opening, whole or cut off. No program in sight. No conditions beyond those typed. -/
import Derived.Test.YtngcdkbnljoodaaJouB
namespace Go.Proofs.Ytngcdkbnljoodaa
set_option linter.unusedVariables false
set_option linter.unusedSimpArgs false

theorem zs_succ_add (a b : Nat) : zs (a + b) = zs a ++ zs b := by unfold zs; rw [List.replicate_append_replicate]
theorem zs_drop (a k : Nat) : (zs a).drop k = zs (a - k) := by unfold zs; rw [List.drop_replicate]
theorem zs_take (a k : Nat) (h : k ≤ a) : (zs a).take k = zs k := by unfold zs; rw [List.take_replicate, Nat.min_eq_left h]
theorem oneL_zs (n : Nat) : oneL (zs n) = none := oneL_zeros n

/-- The records of a part, frames from its head on, zeros behind. -/
structure Sound (s : St) (pf nb : Nat) (l : List Bs) : Prop where
  wf : s.Wf
  has : s.Has pf nb
  ok : ∀ r ∈ l, okR r
  fits : (frames l).length ≤ 32 * nb
  eq : partB s pf nb = frames l ++ zs (32 * nb - (frames l).length)
theorem Sound.scan {s : St} {pf nb : Nat} {l : List Bs} (h : Sound s pf nb l) : IsScan (partB s pf nb) l (zs (32 * nb - (frames l).length)) := ⟨h.eq, h.ok, oneL_zs _⟩
theorem Sound.tail {s : St} {pf nb : Nat} {l : List Bs} (h : Sound s pf nb l) (k : Nat) : (partB s pf nb).drop ((frames l).length + k) = zs (32 * nb - ((frames l).length + k)) := by
  rw [h.eq, ← List.drop_drop, List.drop_left' rfl, zs_drop]
  congr 1
  omega

theorem append_ok {s : St} {pf nb : Nat} {l : List Bs} (h : Sound s pf nb l) (hd : s.down = false) {r : Bs} (hr : okR r) (hroom : (frames l).length + (r.length + 8) ≤ 32 * nb) :
    ∃ P, P.length = 32 * nb ∧ Turned s (appendS s pf nb (frames l).length (frameL r)).1 pf nb P ∧
      (((appendS s pf nb (frames l).length (frameL r)).2 = 0 ∧ Sound (appendS s pf nb (frames l).length (frameL r)).1 pf nb (l ++ [r]) ∧ (appendS s pf nb (frames l).length (frameL r)).1.down = false) ∨
        ((appendS s pf nb (frames l).length (frameL r)).2 = 16 ∧ (appendS s pf nb (frames l).length (frameL r)).1.down = true ∧ ∃ m t, (m = l ∨ m = l ++ [r]) ∧ IsScan P m t)) ∧
      (s.fuse = -1 → (appendS s pf nb (frames l).length (frameL r)).2 = 0 ∧ (appendS s pf nb (frames l).length (frameL r)).1.fuse = -1) := by
  have hfl := frameL_length r
  have hpl := partB_length h.wf h.has
  have htl := h.tail (frameL r).length
  obtain ⟨a, b⟩ := appendS_spec h.wf (frameL r) h.has (by omega) htl hd
  have hall : appAll (partB s pf nb) (frames l).length (frameL r) = frames (l ++ [r]) ++ zs (32 * nb - (frames (l ++ [r])).length) := by
    unfold appAll
    have e := congrArg (List.take (frames l).length) h.eq
    rw [List.take_left' rfl] at e
    rw [hpl, e, frames_snoc, List.length_append]
  have hlen := appAll_length (partB s pf nb) (frames l).length (frameL r) (by omega)
  have hok2 : ∀ x ∈ l ++ [r], okR x := by
    intro x hx
    rcases List.mem_append.1 hx with hx | hx
    · exact h.ok x hx
    · rw [List.mem_singleton.1 hx]; exact hr
  rcases a with ⟨a1, a2, a3⟩ | ⟨a1, a2, c, a3, a4⟩
  · refine ⟨_, by omega, a2, Or.inl ⟨a1, ⟨a2.wf, ⟨h.has.1, by have := h.has.2; rw [a2.n]; exact this⟩, hok2, by rw [frames_snoc, List.length_append]; omega, ?_⟩, a3⟩, b⟩
    rw [a2.part h.wf h.has (by omega), hall]
  · refine ⟨_, ?_, a4, Or.inr ⟨a1, a2, ?_⟩, b⟩
    · rw [List.length_append, List.length_take, List.length_drop]; omega
    · rw [hall]
      generalize hF : (frames l).length = F at *
      have hF2 : (frames (l ++ [r])).length = F + (r.length + 8) := by rw [frames_snoc, List.length_append, hF, hfl]
      rw [hF2]
      -- the torn part: the old records, the frame's head, zeros
      rcases Nat.lt_or_ge c F with h1 | h1
      · refine ⟨l, _, Or.inl rfl, ⟨?_, h.ok, oneL_zs (32 * nb - F)⟩⟩
        rw [frames_snoc, List.append_assoc, List.take_append_of_le_length (by omega)]
        rw [h.eq, List.drop_append_of_le_length (by omega), ← List.append_assoc, List.take_append_drop, hF]
      · rcases Nat.lt_or_ge c (F + (r.length + 8)) with h2 | h2
        · refine ⟨l, _, Or.inl rfl, ⟨?_, h.ok, oneL_torn r hr (c - F) (32 * nb - c) (by omega)⟩⟩
          rw [frames_snoc, List.append_assoc, List.take_append, List.take_of_length_le (by omega : (frames l).length ≤ c), hF, List.take_append_of_le_length (by omega)]
          rw [show c = (frames l).length + (c - F) by omega, h.tail, List.append_assoc, hF]
          rw [show F + (c - F) - F = c - F by omega]
          rfl
        · refine ⟨l ++ [r], _, Or.inr rfl, ⟨?_, hok2, oneL_zs (32 * nb - (F + (r.length + 8)))⟩⟩
          rw [List.take_append, List.take_of_length_le (by omega : (frames (l ++ [r])).length ≤ c), hF2]
          have htc := h.tail (c - (frames l).length)
          rw [show (frames l).length + (c - (frames l).length) = c by omega] at htc
          rw [htc, List.append_assoc]
          congr 1
          unfold zs
          rw [List.take_replicate, List.replicate_append_replicate]
          congr 1
          rcases Nat.lt_or_ge (32 * nb) c with h3 | h3
          · rw [Nat.min_eq_right (by omega)]; omega
          · rw [Nat.min_eq_left (by omega)]; omega

theorem open_ok {s : St} (hs : s.Wf) {pf nb : Nat} (h : s.Has pf nb) {l : List Bs} {t : Bs} (hsc : IsScan (partB s pf nb) l t) :
    ∃ P, P.length = 32 * nb ∧ Turned s (openS s pf nb (frames l).length).1 pf nb P ∧
      (((openS s pf nb (frames l).length).2 = 0 ∧ Sound (openS s pf nb (frames l).length).1 pf nb l ∧ (openS s pf nb (frames l).length).1.down = s.down) ∨
        ((openS s pf nb (frames l).length).2 = 16 ∧ (openS s pf nb (frames l).length).1.down = true ∧ ∃ t', IsScan P l t')) ∧
      (s.down = false → s.fuse = -1 → (openS s pf nb (frames l).length).2 = 0 ∧ (openS s pf nb (frames l).length).1.fuse = -1) := by
  have hpl := partB_length hs h
  have hfl : (frames l).length ≤ 32 * nb := by
    have := congrArg List.length hsc.eq
    rw [List.length_append] at this
    omega
  obtain ⟨a, b⟩ := openS_spec hs h hfl
  have hall : openAll (partB s pf nb) (frames l).length = frames l ++ zs (32 * nb - (frames l).length) := by
    unfold openAll
    have e := congrArg (List.take (frames l).length) hsc.eq
    rw [List.take_left' rfl] at e
    rw [hpl, e]
  have hlen := openAll_length (partB s pf nb) (frames l).length (by omega)
  refine ⟨if (openS s pf nb (frames l).length).2 = 0 then openAll (partB s pf nb) (frames l).length else partB (openS s pf nb (frames l).length).1 pf nb, ?_⟩
  rcases a with ⟨a1, a2, a3⟩ | ⟨a1, a2, c, a3, a4, a5⟩
  · rw [if_pos a1]
    refine ⟨by omega, a2, Or.inl ⟨a1, ⟨a2.wf, ⟨h.1, by have := h.2; rw [a2.n]; exact this⟩, hsc.ok, hfl, ?_⟩, a3⟩, fun hd hf => ⟨(b hd hf).1, (b hd hf).2.1⟩⟩
    rw [a2.part hs h (by omega), hall]
  · have hPl : ((openAll (partB s pf nb) (frames l).length).take c ++ (partB s pf nb).drop c).length = 32 * nb := by rw [List.length_append, List.length_take, List.length_drop]; omega
    have hP := a5.part hs h hPl
    rw [if_neg (by rw [a1]; decide), hP]
    refine ⟨hPl, a5, Or.inr ⟨a1, a2, ?_⟩, fun hd hf => ⟨(b hd hf).1, (b hd hf).2.1⟩⟩
    rw [hall]
    generalize hF : (frames l).length = F at *
    rcases Nat.lt_or_ge F c with h1 | h1
    · refine ⟨(zs (32 * nb - F)).take (c - F) ++ (partB s pf nb).drop c, ?_, hsc.ok, ?_⟩
      · rw [List.take_append, List.take_of_length_le (by omega : (frames l).length ≤ c), hF, List.append_assoc]
      · refine oneL_first ?_
        rw [zs_take _ _ (by omega), List.getD_eq_getElem?_getD, List.getElem?_append_left (by rw [zs_length]; omega)]
        unfold zs
        rw [List.getElem?_replicate]
        split <;> decide
    · refine ⟨t, ?_, hsc.ok, hsc.stop⟩
      rw [List.take_append_of_le_length (by omega)]
      rw [hsc.eq, List.drop_append_of_le_length (by omega), ← List.append_assoc, List.take_append_drop]

def St.up (s : St) : St := { s with down := false, fuse := -1 }
theorem St.up_wf {s : St} (h : s.Wf) : s.up.Wf := ⟨h.len, h.pre, by show (-1 : Int) ≤ -1; decide, by show (-1 : Int) ≤ 9223372036854775807; decide, h.lo, h.hi⟩
theorem Sound.up {s : St} {pf nb : Nat} {l : List Bs} (h : Sound s pf nb l) : Sound s.up pf nb l := ⟨St.up_wf h.wf, h.has, h.ok, h.fits, h.eq⟩
def St.setFuse (s : St) (a b : Int) : St := { s with fuse := max a (-1), pre := (max b 0 % 33).toNat }
theorem St.setFuse_wf {s : St} (h : s.Wf) (a b : Int) (ha : a ≤ 9223372036854775807) : (s.setFuse a b).Wf := ⟨h.len, by show (max b 0 % 33).toNat ≤ 32; omega, by show (-1 : Int) ≤ max a (-1); omega, by show max a (-1) ≤ 9223372036854775807; omega, h.lo, h.hi⟩
theorem Sound.setFuse {s : St} {pf nb : Nat} {l : List Bs} (h : Sound s pf nb l) (a b : Int) (ha : a ≤ 9223372036854775807) : Sound (s.setFuse a b) pf nb l := ⟨St.setFuse_wf h.wf a b ha, h.has, h.ok, h.fits, h.eq⟩
def St.new (n : Nat) : St := { n := n, bs := zs (32 * n), fuse := -1, pre := 0, down := false }
theorem St.new_wf {n : Nat} (h1 : 1 ≤ n) (h2 : n ≤ 256) : (St.new n).Wf := ⟨zs_length _, Nat.zero_le _, by show (-1 : Int) ≤ -1; decide, by show (-1 : Int) ≤ 9223372036854775807; decide, h1, h2⟩
theorem part_new {n pf nb : Nat} (h : (St.new n).Has pf nb) : partB (St.new n) pf nb = zs (32 * nb) := by
  have h2 : pf + nb ≤ n := h.2
  unfold partB
  show ((zs (32 * n)).drop _).take _ = _
  rw [zs_drop, zs_take _ _ (by omega)]
end Go.Proofs.Ytngcdkbnljoodaa
