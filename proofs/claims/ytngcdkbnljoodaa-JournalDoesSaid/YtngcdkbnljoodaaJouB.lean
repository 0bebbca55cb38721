/- The plain part for a log of frames over blocks of bytes: what it means to write some blocks of a part of a store, to open a part, to append a record. No program in sight. No conditions beyond those typed. -/
import Derived.Test.YtngcdkbnljoodaaJouA
namespace Go.Proofs.Ytngcdkbnljoodaa
set_option linter.unusedVariables false
set_option linter.unusedSimpArgs false

def zs (n : Nat) : Bs := List.replicate n 0
theorem zs_length (n : Nat) : (zs n).length = n := List.length_replicate
def blk (all : Bs) (i : Nat) : Bs := (all.drop (32 * i)).take 32
theorem blk_length (all : Bs) (nb i : Nat) (h : all.length = 32 * nb) (hi : i < nb) : (blk all i).length = 32 := by
  unfold blk; rw [List.length_take, List.length_drop]; omega
def putL (pf : Nat) (all was : Bs) (must : Bool) : Nat → Nat → St → St × Int
  | 0, _, s => (s, 0)
  | k + 1, i, s => if must = false ∧ blk all i = blk was i then putL pf all was must k (i + 1) s
      else if (s.write ((pf + i : Nat) : Int) (blk all i)).2 ≠ 0 then s.write ((pf + i : Nat) : Int) (blk all i)
      else putL pf all was must k (i + 1) (s.write ((pf + i : Nat) : Int) (blk all i)).1

theorem splice_mid (A P B d : Bs) (k : Nat) (hk : k + d.length ≤ P.length) : splice (A ++ P ++ B) (A.length + k) d = A ++ splice P k d ++ B := by
  unfold splice
  rw [List.append_assoc A P B, List.take_append, List.take_of_length_le (by omega : A.length ≤ A.length + k), show A.length + k - A.length = k by omega,
    List.take_append_of_le_length (by omega), show A.length + k + d.length = A.length + (k + d.length) by omega, List.drop_append, List.drop_of_length_le (by omega : A.length ≤ A.length + (k + d.length)),
    show A.length + (k + d.length) - A.length = k + d.length by omega, List.drop_append_of_le_length (by omega)]
  simp
theorem take_split (l : Bs) (a b : Nat) : l.take (a + b) = l.take a ++ (l.drop a).take b := List.take_add
theorem splice_step (all was : Bs) (nb i m : Nat) (h1 : all.length = 32 * nb) (h2 : was.length = 32 * nb) (hi : i < nb) (hm : m ≤ 32) :
    splice (all.take (32 * i) ++ was.drop (32 * i)) (32 * i) ((blk all i).take m) = all.take (32 * i + m) ++ was.drop (32 * i + m) := by
  have hb := blk_length all nb i h1 hi
  have hl : (all.take (32 * i)).length = 32 * i := by rw [List.length_take]; omega
  have hm2 : ((blk all i).take m).length = m := by rw [List.length_take]; omega
  unfold splice
  rw [hm2, List.take_left' hl, take_split all (32 * i) m, List.drop_append, List.drop_of_length_le (by omega : (all.take (32 * i)).length ≤ 32 * i + m), hl, show 32 * i + m - 32 * i = m by omega, List.drop_drop]
  unfold blk
  rw [List.take_take, Nat.min_eq_left hm]
  simp
theorem skip_step (all was : Bs) (i : Nat) (h : blk all i = blk was i) : all.take (32 * i) ++ was.drop (32 * i) = all.take (32 * (i + 1)) ++ was.drop (32 * (i + 1)) := by
  rw [show 32 * (i + 1) = 32 * i + 32 by omega, take_split all (32 * i) 32]
  have e : was.drop (32 * i) = blk was i ++ was.drop (32 * i + 32) := by
    unfold blk; rw [← List.drop_drop, List.take_append_drop]
  rw [e, ← h, List.append_assoc]
  rfl

theorem put_spec (pf nb : Nat) (all was A B : Bs) (must : Bool) (hA : A.length = 32 * pf) (h1 : all.length = 32 * nb) (h2 : was.length = 32 * nb) :
    ∀ (k i : Nat) (s : St), s.Wf → s.bs = A ++ (all.take (32 * i) ++ was.drop (32 * i)) ++ B → i + k ≤ nb →
      (putL pf all was must k i s).1.Wf ∧ (putL pf all was must k i s).1.n = s.n ∧ (putL pf all was must k i s).1.pre = s.pre ∧
      (((putL pf all was must k i s).2 = 0 ∧ (putL pf all was must k i s).1.bs = A ++ (all.take (32 * (i + k)) ++ was.drop (32 * (i + k))) ++ B ∧ (putL pf all was must k i s).1.down = s.down) ∨
        ((putL pf all was must k i s).2 = 16 ∧ (putL pf all was must k i s).1.down = true ∧ ∃ c, 32 * i ≤ c ∧ c ≤ 32 * (i + k) ∧ (putL pf all was must k i s).1.bs = A ++ (all.take c ++ was.drop c) ++ B)) ∧
      (s.down = false → s.fuse = -1 → (putL pf all was must k i s).2 = 0 ∧ (putL pf all was must k i s).1.fuse = -1 ∧ (putL pf all was must k i s).1.down = false) := by
  intro k
  induction k with
  | zero =>
    intro i s hs hb _
    exact ⟨hs, rfl, rfl, Or.inl ⟨rfl, hb, rfl⟩, fun hd hf => ⟨rfl, hf, hd⟩⟩
  | succ k ih =>
    intro i s hs hb hik
    have hlen : s.bs.length = 32 * s.n := hs.len
    have hpl : (all.take (32 * i) ++ was.drop (32 * i)).length = 32 * nb := by rw [List.length_append, List.length_take, List.length_drop]; omega
    have hn : pf + nb ≤ s.n := by
      have := hlen
      rw [hb, List.length_append, List.length_append, hpl, hA] at this
      omega
    unfold putL
    by_cases hsk : must = false ∧ blk all i = blk was i
    · rw [if_pos hsk]
      have := ih (i + 1) s hs (by rw [hb, skip_step all was i hsk.2]) (by omega)
      rw [show i + 1 + k = i + (k + 1) by omega] at this
      obtain ⟨a1, a2, a3, a4, a5⟩ := this
      refine ⟨a1, a2, a3, ?_, a5⟩
      rcases a4 with h | ⟨b1, b2, c, b3, b4, b5⟩
      · exact Or.inl h
      · exact Or.inr ⟨b1, b2, c, by omega, b4, b5⟩
    · rw [if_neg hsk]
      have hbl := blk_length all nb i h1 (by omega)
      have hmid : ∀ m, m ≤ 32 → splice s.bs (32 * (pf + i)) ((blk all i).take m) = A ++ (all.take (32 * i + m) ++ was.drop (32 * i + m)) ++ B := by
        intro m hm
        rw [hb, show 32 * (pf + i) = A.length + 32 * i by omega, splice_mid _ _ _ _ _ (by rw [hpl, List.length_take]; omega), splice_step all was nb i m h1 h2 (by omega) hm]
      obtain ⟨w1, w2, w3⟩ := St.write_wf hs ((pf + i : Nat) : Int) (blk all i)
      rcases s.may_cases ((pf + i : Nat) : Int) with ⟨m1, m2⟩ | ⟨m1, m2, m3⟩ | ⟨m1, m2, m3, m4⟩
      · have hw : s.write ((pf + i : Nat) : Int) (blk all i) = (s, 16) := by unfold St.write; rw [if_pos (by rw [m1]; decide), m1]
        rw [hw, if_pos (show (16 : Int) ≠ 0 by decide)]
        exact ⟨hs, rfl, rfl, Or.inr ⟨rfl, m2, 32 * i, by omega, by omega, hb⟩, fun hd => by rw [m2] at hd; cases hd⟩
      · exfalso; omega
      · by_cases hf : s.fuse = 0
        · have hw : s.write ((pf + i : Nat) : Int) (blk all i) = ({ s with bs := splice s.bs (32 * (pf + i)) ((blk all i).take s.pre), down := true, fuse := -1 }, 16) := by
            unfold St.write
            rw [if_neg (by rw [m1]; decide), if_neg (by omega), if_pos hf]
            simp only [Int.toNat_natCast]
          rw [hw] at w1 ⊢
          rw [if_pos (show (16 : Int) ≠ 0 by decide)]
          refine ⟨w1, rfl, rfl, Or.inr ⟨rfl, rfl, 32 * i + s.pre, by omega, ?_, hmid _ hs.pre⟩, fun _ hf2 => by rw [hf] at hf2; cases hf2⟩
          have := hs.pre
          omega
        · have hw : s.write ((pf + i : Nat) : Int) (blk all i) = ({ s with bs := splice s.bs (32 * (pf + i)) (blk all i), fuse := max (s.fuse - 1) (-1) }, 0) := by
            unfold St.write
            rw [if_neg (by rw [m1]; decide), if_neg (by omega), if_neg hf]
            simp only [Int.toNat_natCast]
          rw [hw] at w1 ⊢
          rw [if_neg (show ¬ (0 : Int) ≠ 0 by decide)]
          have hm32 := hmid 32 (Nat.le_refl _)
          rw [List.take_of_length_le (by omega : (blk all i).length ≤ 32)] at hm32
          have := ih (i + 1) _ w1 (show splice s.bs (32 * (pf + i)) (blk all i) = _ by rw [hm32, show 32 * (i + 1) = 32 * i + 32 by omega]) (by omega)
          rw [show i + 1 + k = i + (k + 1) by omega] at this
          obtain ⟨a1, a2, a3, a4, a5⟩ := this
          refine ⟨a1, a2, a3, ?_, fun hd hf2 => a5 hd (by show max (s.fuse - 1) (-1) = -1; omega)⟩
          rcases a4 with h | ⟨b1, b2, c, b3, b4, b5⟩
          · exact Or.inl h
          · exact Or.inr ⟨b1, b2, c, by omega, b4, b5⟩

def partB (s : St) (pf nb : Nat) : Bs := (s.bs.drop (32 * pf)).take (32 * nb)
/-- There is such a part. -/
def St.Has (s : St) (pf nb : Nat) : Prop := 1 ≤ nb ∧ pf + nb ≤ s.n
theorem partB_length {s : St} (hs : s.Wf) {pf nb : Nat} (h : s.Has pf nb) : (partB s pf nb).length = 32 * nb := by
  unfold partB
  have := hs.len
  have := h.2
  rw [List.length_take, List.length_drop]
  omega
theorem part_split {s : St} (hs : s.Wf) {pf nb : Nat} (h : s.Has pf nb) : s.bs = s.bs.take (32 * pf) ++ partB s pf nb ++ s.bs.drop (32 * (pf + nb)) := by
  unfold partB
  rw [show 32 * (pf + nb) = 32 * pf + 32 * nb by omega, ← List.drop_drop, List.append_assoc, List.take_append_drop, List.take_append_drop]
/-- What opening a part writes: bytes behind 'fin' are cleared. -/
def openAll (all : Bs) (fin : Nat) : Bs := all.take fin ++ zs (all.length - fin)
def openS (s : St) (pf nb fin : Nat) : St × Int := putL pf (openAll (partB s pf nb) fin) (partB s pf nb) false (nb - fin / 32) (fin / 32) s
def appAll (all : Bs) (fin : Nat) (f : Bs) : Bs := all.take fin ++ f ++ zs (all.length - (fin + f.length))
def appendS (s : St) (pf nb fin : Nat) (f : Bs) : St × Int := putL pf (appAll (partB s pf nb) fin f) (partB s pf nb) true ((fin + f.length + 31) / 32 - fin / 32) (fin / 32) s
theorem openAll_length (all : Bs) (fin : Nat) (h : fin ≤ all.length) : (openAll all fin).length = all.length := by unfold openAll; simp [zs_length]; omega
theorem appAll_length (all : Bs) (fin : Nat) (f : Bs) (h : fin + f.length ≤ all.length) : (appAll all fin f).length = all.length := by unfold appAll; simp [zs_length]; omega
theorem take_take_le (a : Bs) (t : Bs) (k fin : Nat) (hk : k ≤ fin) (hf : fin ≤ a.length) : (a.take fin ++ t).take k = a.take k := by
  rw [List.take_append_of_le_length (by rw [List.length_take]; omega), List.take_take, Nat.min_eq_left hk]

/-- Some bytes of a part have turned, all else of the store is as it was. -/
structure Turned (s s' : St) (pf nb : Nat) (P : Bs) : Prop where
  wf : s'.Wf
  n : s'.n = s.n
  pre : s'.pre = s.pre
  bs : s'.bs = s.bs.take (32 * pf) ++ P ++ s.bs.drop (32 * (pf + nb))
theorem Turned.part {s s' : St} {pf nb : Nat} {P : Bs} (hs : s.Wf) (h : s.Has pf nb) (hP : P.length = 32 * nb) (t : Turned s s' pf nb P) : partB s' pf nb = P := by
  unfold partB
  have h2 := h.2
  have := hs.len
  have hl : (s.bs.take (32 * pf)).length = 32 * pf := by rw [List.length_take]; omega
  rw [t.bs, List.append_assoc, List.drop_left' hl, List.take_left' hP]

theorem openS_spec {s : St} (hs : s.Wf) {pf nb fin : Nat} (h : s.Has pf nb) (hfin : fin ≤ 32 * nb) :
    (((openS s pf nb fin).2 = 0 ∧ Turned s (openS s pf nb fin).1 pf nb (openAll (partB s pf nb) fin) ∧ (openS s pf nb fin).1.down = s.down) ∨
      ((openS s pf nb fin).2 = 16 ∧ (openS s pf nb fin).1.down = true ∧ ∃ c, 32 * (fin / 32) ≤ c ∧ c ≤ 32 * nb ∧ Turned s (openS s pf nb fin).1 pf nb ((openAll (partB s pf nb) fin).take c ++ (partB s pf nb).drop c))) ∧
    (s.down = false → s.fuse = -1 → (openS s pf nb fin).2 = 0 ∧ (openS s pf nb fin).1.fuse = -1 ∧ (openS s pf nb fin).1.down = false) := by
  have hpl := partB_length hs h
  have hall := openAll_length (partB s pf nb) fin (by omega)
  have h2 := h.2
  have hln := hs.len
  have hA : (s.bs.take (32 * pf)).length = 32 * pf := by rw [List.length_take]; omega
  have h0 : s.bs = s.bs.take (32 * pf) ++ ((openAll (partB s pf nb) fin).take (32 * (fin / 32)) ++ (partB s pf nb).drop (32 * (fin / 32))) ++ s.bs.drop (32 * (pf + nb)) := by
    have e : (openAll (partB s pf nb) fin).take (32 * (fin / 32)) = (partB s pf nb).take (32 * (fin / 32)) := by
      unfold openAll
      exact take_take_le _ _ _ _ (by omega) (by omega)
    rw [e, List.take_append_drop]
    exact part_split hs h
  have hk : fin / 32 + (nb - fin / 32) = nb := by omega
  obtain ⟨a1, a2, a3, a4, a5⟩ := put_spec pf nb (openAll (partB s pf nb) fin) (partB s pf nb) _ _ false hA (by omega) hpl (nb - fin / 32) (fin / 32) s hs h0 (by omega)
  rw [hk] at a4
  refine ⟨?_, a5⟩
  rcases a4 with ⟨b1, b2, b3⟩ | ⟨b1, b2, c, b3, b4, b5⟩
  · refine Or.inl ⟨b1, ⟨a1, a2, a3, ?_⟩, b3⟩
    show (putL _ _ _ _ _ _ _).1.bs = _
    rw [b2, List.take_of_length_le (l := openAll (partB s pf nb) fin) (by omega), List.drop_of_length_le (l := partB s pf nb) (by omega), List.append_nil]
  · exact Or.inr ⟨b1, b2, c, b3, b4, ⟨a1, a2, a3, b5⟩⟩
theorem appendS_spec {s : St} (hs : s.Wf) {pf nb fin : Nat} (f : Bs) (h : s.Has pf nb) (hfin : fin + f.length ≤ 32 * nb) (hz : (partB s pf nb).drop (fin + f.length) = zs (32 * nb - (fin + f.length))) (hd : s.down = false) :
    (((appendS s pf nb fin f).2 = 0 ∧ Turned s (appendS s pf nb fin f).1 pf nb (appAll (partB s pf nb) fin f) ∧ (appendS s pf nb fin f).1.down = false) ∨
      ((appendS s pf nb fin f).2 = 16 ∧ (appendS s pf nb fin f).1.down = true ∧ ∃ c, 32 * (fin / 32) ≤ c ∧ Turned s (appendS s pf nb fin f).1 pf nb ((appAll (partB s pf nb) fin f).take c ++ (partB s pf nb).drop c))) ∧
    (s.fuse = -1 → (appendS s pf nb fin f).2 = 0 ∧ (appendS s pf nb fin f).1.fuse = -1) := by
  have hpl := partB_length hs h
  have hall := appAll_length (partB s pf nb) fin f (by omega)
  have h2 := h.2
  have hln := hs.len
  have hA : (s.bs.take (32 * pf)).length = 32 * pf := by rw [List.length_take]; omega
  have h0 : s.bs = s.bs.take (32 * pf) ++ ((appAll (partB s pf nb) fin f).take (32 * (fin / 32)) ++ (partB s pf nb).drop (32 * (fin / 32))) ++ s.bs.drop (32 * (pf + nb)) := by
    have e : (appAll (partB s pf nb) fin f).take (32 * (fin / 32)) = (partB s pf nb).take (32 * (fin / 32)) := by
      unfold appAll
      rw [List.append_assoc]
      exact take_take_le _ _ _ _ (by omega) (by omega)
    rw [e, List.take_append_drop]
    exact part_split hs h
  have hk : fin / 32 + ((fin + f.length + 31) / 32 - fin / 32) = (fin + f.length + 31) / 32 := by omega
  obtain ⟨a1, a2, a3, a4, a5⟩ := put_spec pf nb (appAll (partB s pf nb) fin f) (partB s pf nb) _ _ true hA (by omega) hpl ((fin + f.length + 31) / 32 - fin / 32) (fin / 32) s hs h0 (by omega)
  rw [hk] at a4
  refine ⟨?_, fun hf => ⟨(a5 hd hf).1, (a5 hd hf).2.1⟩⟩
  rcases a4 with ⟨b1, b2, b3⟩ | ⟨b1, b2, c, b3, b4, b5⟩
  · refine Or.inl ⟨b1, ⟨a1, a2, a3, ?_⟩, b3.trans hd⟩
    show (putL _ _ _ _ _ _ _).1.bs = _
    rw [b2]
    congr 2
    have hle : fin + f.length ≤ 32 * ((fin + f.length + 31) / 32) := by omega
    generalize 32 * ((fin + f.length + 31) / 32) = K at hle
    have e2 : (partB s pf nb).drop K = zs (32 * nb - K) := by
      rw [show K = fin + f.length + (K - (fin + f.length)) by omega, ← List.drop_drop, hz]
      unfold zs
      rw [List.drop_replicate]
      congr 1
      omega
    have e3 : (appAll (partB s pf nb) fin f).drop K = zs (32 * nb - K) := by
      have hl3 : ((partB s pf nb).take fin ++ f).length = fin + f.length := by rw [List.length_append, List.length_take]; omega
      unfold appAll
      rw [List.drop_append, List.drop_of_length_le (by omega), hl3, hpl, List.nil_append]
      unfold zs
      rw [List.drop_replicate]
      congr 1
      omega
    rw [e2, ← e3, List.take_append_drop]
  · exact Or.inr ⟨b1, b2, c, b3, ⟨a1, a2, a3, b5⟩⟩
end Go.Proofs.Ytngcdkbnljoodaa
