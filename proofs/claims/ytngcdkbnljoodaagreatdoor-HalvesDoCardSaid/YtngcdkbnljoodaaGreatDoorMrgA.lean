/- The plain part for a log of frames over blocks of bytes: sums, frames, what a scan finds, what a store's write leaves. No program in sight. No conditions beyond those typed. The plain part for a log of frames over blocks of bytes: what it means to write some blocks of a part of a store, to open a part, to append a record. No program in sight. No conditions beyond those typed. The plain part for a journal: what stands behind an append, an opening, whole or cut off. No program in sight. No conditions beyond those typed. Words for worlds of which some blocks have turned, and a law for 'copy' out of a string. No conditions beyond those typed. -/
import Derived.Lib.Strings
import Derived.Laws.CopyOwn
import Derived.WalkKit
import Derived.Lib.Hide
import Derived.Deep.Draws
import Derived.Deep.Quiet
import Derived.Deep.WholeRow
import Derived.Laws.Rows
namespace Go.Proofs.YtngcdkbnljoodaaGreatDoor
set_option linter.unusedVariables false
set_option linter.unusedSimpArgs false

abbrev Bs := List UInt8
def mkS (l : Bs) : ByteArray := ⟨l.toArray⟩
theorem mkS_list (s : ByteArray) : mkS s.data.toList = s := by cases s; rfl
theorem list_mkS (l : Bs) : (mkS l).data.toList = l := by simp [mkS]
theorem size_mkS (l : Bs) : (mkS l).size = l.length := by simp [mkS, ByteArray.size]
def crcBit (n : Nat) : Nat := (n / 2) ^^^ (if n % 2 = 1 then 3988292384 else 0)
def crcIt : Nat → Nat → Nat
  | 0, n => n
  | k + 1, n => crcIt k (crcBit n)
def crcByte (n : Nat) (c : UInt8) : Nat := crcIt 8 (n ^^^ c.toNat)
def crcFold (l : Bs) : Nat := l.foldl crcByte 4294967295
def crc (l : Bs) : Nat := 4294967295 - crcFold l
theorem crcBit_lt {n : Nat} (h : n < 2 ^ 32) : crcBit n < 2 ^ 32 := by
  unfold crcBit
  refine Nat.xor_lt_two_pow (by omega) ?_
  split <;> decide
theorem crcIt_lt (k : Nat) : ∀ {n : Nat}, n < 2 ^ 32 → crcIt k n < 2 ^ 32 := by
  induction k with
  | zero => intro n h; exact h
  | succ k ih => intro n h; exact ih (crcBit_lt h)
theorem crcIt_succ (k : Nat) : ∀ n : Nat, crcIt (k + 1) n = crcBit (crcIt k n) := by
  induction k with
  | zero => intro n; rfl
  | succ k ih => intro n; show crcIt (k + 1) (crcBit n) = crcBit (crcIt k (crcBit n)); exact ih _
theorem crcByte_lt {n : Nat} (c : UInt8) (h : n < 2 ^ 32) : crcByte n c < 2 ^ 32 :=
  crcIt_lt 8 (Nat.xor_lt_two_pow h (Nat.lt_of_lt_of_le c.toNat_lt (by decide)))
theorem crcFoldl_lt (l : Bs) : ∀ {n : Nat}, n < 2 ^ 32 → l.foldl crcByte n < 2 ^ 32 := by
  induction l with
  | nil => intro n h; exact h
  | cons c l ih => intro n h; exact ih (crcByte_lt c h)
theorem crcFold_lt (l : Bs) : crcFold l < 2 ^ 32 := crcFoldl_lt l (by decide)
theorem crcFold_snoc (l : Bs) (c : UInt8) : crcFold (l ++ [c]) = crcByte (crcFold l) c := by simp [crcFold]
theorem crc_lt (l : Bs) : crc l < 2 ^ 32 := by unfold crc; omega

def b8 (n : Nat) : UInt8 := UInt8.ofNat n
theorem b8_toNat (n : Nat) : (b8 n).toNat = n % 256 := by simp [b8]
def headL (r : Bs) : Bs := [1, b8 (r.length / 256), b8 r.length, b8 (crc r / 16777216), b8 (crc r / 65536), b8 (crc r / 256), b8 (crc r)]
def frameL (r : Bs) : Bs := headL r ++ r ++ [1]
theorem headL_length (r : Bs) : (headL r).length = 7 := rfl
theorem frameL_length (r : Bs) : (frameL r).length = r.length + 8 := by simp [frameL, headL_length]; omega
def frames (l : List Bs) : Bs := l.flatMap frameL
theorem frames_nil : frames [] = [] := rfl
theorem frames_cons (r : Bs) (l : List Bs) : frames (r :: l) = frameL r ++ frames l := rfl
theorem frames_snoc (l : List Bs) (r : Bs) : frames (l ++ [r]) = frames l ++ frameL r := by simp [frames]
theorem frames_append (l m : List Bs) : frames (l ++ m) = frames l ++ frames m := by simp [frames]
/-- A record that has a frame. -/
def okR (r : Bs) : Prop := 1 ≤ r.length ∧ r.length ≤ 400
instance (r : Bs) : Decidable (okR r) := by unfold okR; infer_instance

def lenL (s : Bs) : Nat := 256 * (s.getD 1 0).toNat + (s.getD 2 0).toNat
/-- The record whose frame bytes begin with. -/
def oneL (s : Bs) : Option Bs :=
  if s.length < 9 then none
  else if 1 ≤ lenL s ∧ lenL s ≤ 400 ∧ lenL s + 8 ≤ s.length ∧ s.take (lenL s + 8) = frameL ((s.drop 7).take (lenL s)) then some ((s.drop 7).take (lenL s)) else none

theorem lenL_frame (r t : Bs) (h : okR r) : lenL (frameL r ++ t) = r.length := by
  have h2 := h.2
  unfold lenL frameL headL
  simp [b8_toNat]
  omega
theorem drop7_frame (r t : Bs) : (frameL r ++ t).drop 7 = r ++ ([1] ++ t) := by
  unfold frameL headL
  simp
theorem oneL_frame (r t : Bs) (h : okR r) : oneL (frameL r ++ t) = some r := by
  have hl := lenL_frame r t h
  have h1 := h.1
  unfold oneL
  rw [if_neg (by rw [List.length_append, frameL_length]; omega), hl, drop7_frame, List.take_left' rfl, List.take_left' (by rw [frameL_length]), if_pos]
  exact ⟨h.1, h.2, by rw [List.length_append, frameL_length]; omega, rfl⟩
theorem oneL_some {s r : Bs} (h : oneL s = some r) : okR r ∧ s = frameL r ++ s.drop (r.length + 8) := by
  unfold oneL at h
  split at h
  · cases h
  · split at h
    · rename_i h0 h1
      obtain ⟨h1, h2, h3, h4⟩ := h1
      have hr : (s.drop 7).take (lenL s) = r := Option.some.inj h
      have hlen : r.length = lenL s := by rw [← hr, List.length_take, List.length_drop]; omega
      refine ⟨⟨by omega, by omega⟩, ?_⟩
      rw [hr] at h4
      rw [hlen, ← h4, List.take_append_drop]
    · cases h
theorem oneL_first {s : Bs} (h : s.getD 0 0 ≠ 1) : oneL s = none := by
  cases h1 : oneL s with
  | none => rfl
  | some r =>
    obtain ⟨_, h2⟩ := oneL_some h1
    exfalso
    rw [h2] at h
    exact h (by simp [frameL, headL])
theorem oneL_short {s : Bs} (h : s.length < 9) : oneL s = none := by unfold oneL; rw [if_pos h]
theorem getD_take_rep (f : Bs) (c m i : Nat) (h : c ≤ i) : (f.take c ++ List.replicate m 0).getD i 0 = 0 := by
  rw [List.getD_eq_getElem?_getD]
  rcases Nat.lt_or_ge i (f.take c).length with h1 | h1
  · rw [List.length_take] at h1; omega
  · rw [List.getElem?_append_right h1]
    rw [List.getElem?_replicate]
    split <;> rfl
theorem getD_take_lt (f t : Bs) (c i : Nat) (h : i < c) (hc : c ≤ f.length) : (f.take c ++ t).getD i 0 = f.getD i 0 := by
  rw [List.getD_eq_getElem?_getD, List.getD_eq_getElem?_getD, List.getElem?_append_left (by rw [List.length_take]; omega), List.getElem?_take, if_pos h]
/-- A frame that is torn off, zeros behind, is none. -/
theorem oneL_torn (r : Bs) (hr : okR r) (c m : Nat) (hc : c < r.length + 8) : oneL ((frameL r).take c ++ List.replicate m 0) = none := by
  cases h1 : oneL ((frameL r).take c ++ List.replicate m 0) with
  | none => rfl
  | some q =>
    exfalso
    obtain ⟨hq, h2⟩ := oneL_some h1
    have hfl := frameL_length r
    have hl : lenL ((frameL r).take c ++ List.replicate m 0) = q.length := by rw [h2]; exact lenL_frame q _ hq
    have hlast : ((frameL r).take c ++ List.replicate m 0).getD (q.length + 7) 0 = 1 := by
      rw [h2, List.getD_eq_getElem?_getD, List.getElem?_append_left (by rw [frameL_length]; omega)]
      unfold frameL
      rw [List.getElem?_append_right (by rw [List.length_append, headL_length]; omega), List.length_append, headL_length]
      rw [show q.length + 7 - (7 + q.length) = 0 by omega]
      rfl
    rcases Nat.lt_or_ge (q.length + 7) c with h3 | h3
    · have hl2 : lenL ((frameL r).take c ++ List.replicate m 0) = lenL (frameL r ++ []) := by
        unfold lenL
        rw [getD_take_lt _ _ c 1 (by omega) (by omega), getD_take_lt _ _ c 2 (by omega) (by omega), List.append_nil]
      rw [lenL_frame r [] hr] at hl2
      omega
    · rw [getD_take_rep _ _ _ _ h3] at hlast
      exact absurd hlast (by decide)
theorem oneL_zeros (m : Nat) : oneL (List.replicate m 0) = none := by
  refine oneL_first ?_
  rw [List.getD_eq_getElem?_getD, List.getElem?_replicate]
  split <;> decide

/-- What a scan of bytes finds: the records, and what is left. -/
structure IsScan (s : Bs) (l : List Bs) (t : Bs) : Prop where
  eq : s = frames l ++ t
  ok : ∀ r ∈ l, okR r
  stop : oneL t = none
theorem IsScan.uniq {s : Bs} {l m : List Bs} {t u : Bs} (h : IsScan s l t) (k : IsScan s m u) : l = m ∧ t = u := by
  induction l generalizing s m with
  | nil =>
    cases m with
    | nil => exact ⟨rfl, by have := h.eq.symm.trans k.eq; simpa [frames] using this⟩
    | cons r m =>
      have e : t = frameL r ++ (frames m ++ u) := by have := h.eq.symm.trans k.eq; simpa [frames] using this
      have := h.stop
      rw [e, oneL_frame r _ (k.ok r (by simp))] at this
      cases this
  | cons r l ih =>
    have e1 : s = frameL r ++ (frames l ++ t) := by have := h.eq; rw [frames_cons, List.append_assoc] at this; exact this
    cases m with
    | nil =>
      have e : u = frameL r ++ (frames l ++ t) := by have := k.eq.symm.trans e1; simpa [frames] using this
      have := k.stop
      rw [e, oneL_frame r _ (h.ok r (by simp))] at this
      cases this
    | cons q m =>
      have e2 : s = frameL q ++ (frames m ++ u) := by have := k.eq; rw [frames_cons, List.append_assoc] at this; exact this
      have o1 := oneL_frame r (frames l ++ t) (h.ok r (by simp))
      have o2 := oneL_frame q (frames m ++ u) (k.ok q (by simp))
      rw [← e1] at o1
      rw [← e2, o1] at o2
      obtain rfl : r = q := Option.some.inj o2
      have e3 : frames l ++ t = frames m ++ u := List.append_cancel_left (e1.symm.trans e2)
      have := ih (s := frames l ++ t) (m := m) ⟨rfl, fun x hx => h.ok x (by simp [hx]), h.stop⟩ ⟨e3, fun x hx => k.ok x (by simp [hx]), k.stop⟩
      exact ⟨by rw [this.1], this.2⟩
theorem IsScan.step {s : Bs} {l : List Bs} {t r : Bs} (h : s = frames l ++ t) (ok : ∀ x ∈ l, okR x) (h1 : oneL t = some r) : s = frames (l ++ [r]) ++ t.drop (r.length + 8) ∧ (∀ x ∈ l ++ [r], okR x) := by
  obtain ⟨h2, h3⟩ := oneL_some h1
  refine ⟨?_, ?_⟩
  · rw [frames_snoc, List.append_assoc, ← h3]; exact h
  · intro x hx
    rcases List.mem_append.1 hx with hx | hx
    · exact ok x hx
    · rw [List.mem_singleton.1 hx]; exact h2
theorem isScan_exists : ∀ (n : Nat) (s : Bs), s.length ≤ n → ∃ l t, IsScan s l t := by
  intro n
  induction n with
  | zero => intro s h; exact ⟨[], s, rfl, by simp, oneL_short (by omega)⟩
  | succ n ih =>
    intro s h
    cases h1 : oneL s with
    | none => exact ⟨[], s, rfl, by simp, h1⟩
    | some r =>
      obtain ⟨h2, h3⟩ := oneL_some h1
      obtain ⟨l, t, h4⟩ := ih (s.drop (r.length + 8)) (by rw [List.length_drop]; omega)
      refine ⟨r :: l, t, ?_, ?_, h4.stop⟩
      · rw [frames_cons, List.append_assoc, ← h4.eq]; exact h3
      · intro x hx
        rcases List.mem_cons.1 hx with hx | hx
        · rw [hx]; exact h2
        · exact h4.ok x hx
theorem frames_pos {l : List Bs} {r : Bs} (h : r ∈ l) : r.length + 8 ≤ (frames l).length := by
  induction l with
  | nil => cases h
  | cons q l ih =>
    rw [frames_cons, List.length_append, frameL_length]
    rcases List.mem_cons.1 h with h | h
    · rw [h]; omega
    · have := ih h; omega

/-- A store's state: blocks of 32 bytes in a row; a fuse (below 0: none), its prefix; is it down. -/
structure St where
  n : Nat
  bs : Bs
  fuse : Int
  pre : Nat
  down : Bool
structure St.Wf (s : St) : Prop where
  len : s.bs.length = 32 * s.n
  pre : s.pre ≤ 32
  fuse : -1 ≤ s.fuse
  top : s.fuse ≤ 9223372036854775807
  lo : 1 ≤ s.n
  hi : s.n ≤ 256
def St.may (s : St) (i : Int) : Int := if s.down = true then 16 else if i < 0 ∨ (s.n : Int) ≤ i then 3 else 0
def splice (l : Bs) (k : Nat) (d : Bs) : Bs := l.take k ++ d ++ l.drop (k + d.length)
theorem splice_length (l : Bs) (k : Nat) (d : Bs) (h : k + d.length ≤ l.length) : (splice l k d).length = l.length := by
  unfold splice; simp; omega
def St.write (s : St) (i : Int) (d : Bs) : St × Int :=
  if s.may i ≠ 0 then (s, s.may i)
  else if d.length ≠ 32 then (s, 1)
  else if s.fuse = 0 then ({ s with bs := splice s.bs (32 * i.toNat) (d.take s.pre), down := true, fuse := -1 }, 16)
  else ({ s with bs := splice s.bs (32 * i.toNat) d, fuse := max (s.fuse - 1) (-1) }, 0)
theorem St.may_cases (s : St) (i : Int) : (s.may i = 16 ∧ s.down = true) ∨ (s.may i = 3 ∧ s.down = false ∧ (i < 0 ∨ (s.n : Int) ≤ i)) ∨ (s.may i = 0 ∧ s.down = false ∧ 0 ≤ i ∧ i < s.n) := by
  unfold St.may
  cases h : s.down
  · by_cases h1 : i < 0 ∨ (s.n : Int) ≤ i
    · right; left; simp [h1]
    · right; right; simp [h1]; omega
  · left; simp
theorem St.write_wf {s : St} (h : s.Wf) (i : Int) (d : Bs) : (s.write i d).1.Wf ∧ (s.write i d).1.n = s.n ∧ (s.write i d).1.pre = s.pre := by
  have hl := h.len
  have hp := h.pre
  unfold St.write
  rcases s.may_cases i with ⟨h1, h2⟩ | ⟨h1, h2, h3⟩ | ⟨h1, h2, h3, h4⟩
  · rw [if_pos (by rw [h1]; decide)]; exact ⟨h, rfl, rfl⟩
  · rw [if_pos (by rw [h1]; decide)]; exact ⟨h, rfl, rfl⟩
  · rw [if_neg (by rw [h1]; decide)]
    by_cases h5 : d.length ≠ 32
    · rw [if_pos h5]; exact ⟨h, rfl, rfl⟩
    · have h5' : d.length = 32 := by omega
      rw [if_neg h5]
      have hk : 32 * i.toNat + 32 ≤ s.bs.length := by omega
      by_cases h6 : s.fuse = 0
      · rw [if_pos h6]
        exact ⟨⟨by show (splice _ _ _).length = _; rw [splice_length _ _ _ (by rw [List.length_take]; omega), hl], h.pre, by show (-1 : Int) ≤ -1; decide, by show (-1 : Int) ≤ 9223372036854775807; decide, h.lo, h.hi⟩, rfl, rfl⟩
      · rw [if_neg h6]
        exact ⟨⟨by show (splice _ _ _).length = _; rw [splice_length _ _ _ (by omega), hl], h.pre, by show -1 ≤ max _ _; omega, by show max _ _ ≤ (9223372036854775807 : Int); have := h.top; omega, h.lo, h.hi⟩, rfl, rfl⟩
end Go.Proofs.YtngcdkbnljoodaaGreatDoor

namespace Go.Proofs.YtngcdkbnljoodaaGreatDoor
set_option linter.unusedVariables false
set_option linter.unusedSimpArgs false

def zs (n : Nat) : Bs := List.replicate n 0
theorem zs_length (n : Nat) : (zs n).length = n := List.length_replicate
def blk (all : Bs) (i : Nat) : Bs := (all.drop (32 * i)).take 32
theorem blk_length (all : Bs) (nb i : Nat) (h : all.length = 32 * nb) (hi : i < nb) : (blk all i).length = 32 := by
  unfold blk; rw [List.length_take, List.length_drop]; omega
def putL (pf : Nat) (all was : Bs) (must : Bool) : Nat → Nat → St → St × Int
  | 0, _, s => (s, 0)
  | k + 1, i, s => if must = false ∧ blk all i = blk was i then putL pf all was must k (i + 1) s
      else if (s.write ((pf + i : Nat) : Int) (blk all i)).2 ≠ 0 then s.write ((pf + i : Nat) : Int) (blk all i)
      else putL pf all was must k (i + 1) (s.write ((pf + i : Nat) : Int) (blk all i)).1

theorem splice_mid (A P B d : Bs) (k : Nat) (hk : k + d.length ≤ P.length) : splice (A ++ P ++ B) (A.length + k) d = A ++ splice P k d ++ B := by
  unfold splice
  rw [List.append_assoc A P B, List.take_append, List.take_of_length_le (by omega : A.length ≤ A.length + k), show A.length + k - A.length = k by omega,
    List.take_append_of_le_length (by omega), show A.length + k + d.length = A.length + (k + d.length) by omega, List.drop_append, List.drop_of_length_le (by omega : A.length ≤ A.length + (k + d.length)),
    show A.length + (k + d.length) - A.length = k + d.length by omega, List.drop_append_of_le_length (by omega)]
  simp
theorem take_split (l : Bs) (a b : Nat) : l.take (a + b) = l.take a ++ (l.drop a).take b := List.take_add
theorem splice_step (all was : Bs) (nb i m : Nat) (h1 : all.length = 32 * nb) (h2 : was.length = 32 * nb) (hi : i < nb) (hm : m ≤ 32) :
    splice (all.take (32 * i) ++ was.drop (32 * i)) (32 * i) ((blk all i).take m) = all.take (32 * i + m) ++ was.drop (32 * i + m) := by
  have hb := blk_length all nb i h1 hi
  have hl : (all.take (32 * i)).length = 32 * i := by rw [List.length_take]; omega
  have hm2 : ((blk all i).take m).length = m := by rw [List.length_take]; omega
  unfold splice
  rw [hm2, List.take_left' hl, take_split all (32 * i) m, List.drop_append, List.drop_of_length_le (by omega : (all.take (32 * i)).length ≤ 32 * i + m), hl, show 32 * i + m - 32 * i = m by omega, List.drop_drop]
  unfold blk
  rw [List.take_take, Nat.min_eq_left hm]
  simp
theorem skip_step (all was : Bs) (i : Nat) (h : blk all i = blk was i) : all.take (32 * i) ++ was.drop (32 * i) = all.take (32 * (i + 1)) ++ was.drop (32 * (i + 1)) := by
  rw [show 32 * (i + 1) = 32 * i + 32 by omega, take_split all (32 * i) 32]
  have e : was.drop (32 * i) = blk was i ++ was.drop (32 * i + 32) := by
    unfold blk; rw [← List.drop_drop, List.take_append_drop]
  rw [e, ← h, List.append_assoc]
  rfl

theorem put_spec (pf nb : Nat) (all was A B : Bs) (must : Bool) (hA : A.length = 32 * pf) (h1 : all.length = 32 * nb) (h2 : was.length = 32 * nb) :
    ∀ (k i : Nat) (s : St), s.Wf → s.bs = A ++ (all.take (32 * i) ++ was.drop (32 * i)) ++ B → i + k ≤ nb →
      (putL pf all was must k i s).1.Wf ∧ (putL pf all was must k i s).1.n = s.n ∧ (putL pf all was must k i s).1.pre = s.pre ∧
      (((putL pf all was must k i s).2 = 0 ∧ (putL pf all was must k i s).1.bs = A ++ (all.take (32 * (i + k)) ++ was.drop (32 * (i + k))) ++ B ∧ (putL pf all was must k i s).1.down = s.down) ∨
        ((putL pf all was must k i s).2 = 16 ∧ (putL pf all was must k i s).1.down = true ∧ ∃ c, 32 * i ≤ c ∧ c ≤ 32 * (i + k) ∧ (putL pf all was must k i s).1.bs = A ++ (all.take c ++ was.drop c) ++ B)) ∧
      (s.down = false → s.fuse = -1 → (putL pf all was must k i s).2 = 0 ∧ (putL pf all was must k i s).1.fuse = -1 ∧ (putL pf all was must k i s).1.down = false) := by
  intro k
  induction k with
  | zero =>
    intro i s hs hb _
    exact ⟨hs, rfl, rfl, Or.inl ⟨rfl, hb, rfl⟩, fun hd hf => ⟨rfl, hf, hd⟩⟩
  | succ k ih =>
    intro i s hs hb hik
    have hlen : s.bs.length = 32 * s.n := hs.len
    have hpl : (all.take (32 * i) ++ was.drop (32 * i)).length = 32 * nb := by rw [List.length_append, List.length_take, List.length_drop]; omega
    have hn : pf + nb ≤ s.n := by
      have := hlen
      rw [hb, List.length_append, List.length_append, hpl, hA] at this
      omega
    unfold putL
    by_cases hsk : must = false ∧ blk all i = blk was i
    · rw [if_pos hsk]
      have := ih (i + 1) s hs (by rw [hb, skip_step all was i hsk.2]) (by omega)
      rw [show i + 1 + k = i + (k + 1) by omega] at this
      obtain ⟨a1, a2, a3, a4, a5⟩ := this
      refine ⟨a1, a2, a3, ?_, a5⟩
      rcases a4 with h | ⟨b1, b2, c, b3, b4, b5⟩
      · exact Or.inl h
      · exact Or.inr ⟨b1, b2, c, by omega, b4, b5⟩
    · rw [if_neg hsk]
      have hbl := blk_length all nb i h1 (by omega)
      have hmid : ∀ m, m ≤ 32 → splice s.bs (32 * (pf + i)) ((blk all i).take m) = A ++ (all.take (32 * i + m) ++ was.drop (32 * i + m)) ++ B := by
        intro m hm
        rw [hb, show 32 * (pf + i) = A.length + 32 * i by omega, splice_mid _ _ _ _ _ (by rw [hpl, List.length_take]; omega), splice_step all was nb i m h1 h2 (by omega) hm]
      obtain ⟨w1, w2, w3⟩ := St.write_wf hs ((pf + i : Nat) : Int) (blk all i)
      rcases s.may_cases ((pf + i : Nat) : Int) with ⟨m1, m2⟩ | ⟨m1, m2, m3⟩ | ⟨m1, m2, m3, m4⟩
      · have hw : s.write ((pf + i : Nat) : Int) (blk all i) = (s, 16) := by unfold St.write; rw [if_pos (by rw [m1]; decide), m1]
        rw [hw, if_pos (show (16 : Int) ≠ 0 by decide)]
        exact ⟨hs, rfl, rfl, Or.inr ⟨rfl, m2, 32 * i, by omega, by omega, hb⟩, fun hd => by rw [m2] at hd; cases hd⟩
      · exfalso; omega
      · by_cases hf : s.fuse = 0
        · have hw : s.write ((pf + i : Nat) : Int) (blk all i) = ({ s with bs := splice s.bs (32 * (pf + i)) ((blk all i).take s.pre), down := true, fuse := -1 }, 16) := by
            unfold St.write
            rw [if_neg (by rw [m1]; decide), if_neg (by omega), if_pos hf]
            simp only [Int.toNat_natCast]
          rw [hw] at w1 ⊢
          rw [if_pos (show (16 : Int) ≠ 0 by decide)]
          refine ⟨w1, rfl, rfl, Or.inr ⟨rfl, rfl, 32 * i + s.pre, by omega, ?_, hmid _ hs.pre⟩, fun _ hf2 => by rw [hf] at hf2; cases hf2⟩
          have := hs.pre
          omega
        · have hw : s.write ((pf + i : Nat) : Int) (blk all i) = ({ s with bs := splice s.bs (32 * (pf + i)) (blk all i), fuse := max (s.fuse - 1) (-1) }, 0) := by
            unfold St.write
            rw [if_neg (by rw [m1]; decide), if_neg (by omega), if_neg hf]
            simp only [Int.toNat_natCast]
          rw [hw] at w1 ⊢
          rw [if_neg (show ¬ (0 : Int) ≠ 0 by decide)]
          have hm32 := hmid 32 (Nat.le_refl _)
          rw [List.take_of_length_le (by omega : (blk all i).length ≤ 32)] at hm32
          have := ih (i + 1) _ w1 (show splice s.bs (32 * (pf + i)) (blk all i) = _ by rw [hm32, show 32 * (i + 1) = 32 * i + 32 by omega]) (by omega)
          rw [show i + 1 + k = i + (k + 1) by omega] at this
          obtain ⟨a1, a2, a3, a4, a5⟩ := this
          refine ⟨a1, a2, a3, ?_, fun hd hf2 => a5 hd (by show max (s.fuse - 1) (-1) = -1; omega)⟩
          rcases a4 with h | ⟨b1, b2, c, b3, b4, b5⟩
          · exact Or.inl h
          · exact Or.inr ⟨b1, b2, c, by omega, b4, b5⟩

def partB (s : St) (pf nb : Nat) : Bs := (s.bs.drop (32 * pf)).take (32 * nb)
/-- There is such a part. -/
def St.Has (s : St) (pf nb : Nat) : Prop := 1 ≤ nb ∧ pf + nb ≤ s.n
theorem partB_length {s : St} (hs : s.Wf) {pf nb : Nat} (h : s.Has pf nb) : (partB s pf nb).length = 32 * nb := by
  unfold partB
  have := hs.len
  have := h.2
  rw [List.length_take, List.length_drop]
  omega
theorem part_split {s : St} (hs : s.Wf) {pf nb : Nat} (h : s.Has pf nb) : s.bs = s.bs.take (32 * pf) ++ partB s pf nb ++ s.bs.drop (32 * (pf + nb)) := by
  unfold partB
  rw [show 32 * (pf + nb) = 32 * pf + 32 * nb by omega, ← List.drop_drop, List.append_assoc, List.take_append_drop, List.take_append_drop]
/-- What opening a part writes: bytes behind 'fin' are cleared. -/
def openAll (all : Bs) (fin : Nat) : Bs := all.take fin ++ zs (all.length - fin)
def openS (s : St) (pf nb fin : Nat) : St × Int := putL pf (openAll (partB s pf nb) fin) (partB s pf nb) false (nb - fin / 32) (fin / 32) s
def appAll (all : Bs) (fin : Nat) (f : Bs) : Bs := all.take fin ++ f ++ zs (all.length - (fin + f.length))
def appendS (s : St) (pf nb fin : Nat) (f : Bs) : St × Int := putL pf (appAll (partB s pf nb) fin f) (partB s pf nb) true ((fin + f.length + 31) / 32 - fin / 32) (fin / 32) s
theorem openAll_length (all : Bs) (fin : Nat) (h : fin ≤ all.length) : (openAll all fin).length = all.length := by unfold openAll; simp [zs_length]; omega
theorem appAll_length (all : Bs) (fin : Nat) (f : Bs) (h : fin + f.length ≤ all.length) : (appAll all fin f).length = all.length := by unfold appAll; simp [zs_length]; omega
theorem take_take_le (a : Bs) (t : Bs) (k fin : Nat) (hk : k ≤ fin) (hf : fin ≤ a.length) : (a.take fin ++ t).take k = a.take k := by
  rw [List.take_append_of_le_length (by rw [List.length_take]; omega), List.take_take, Nat.min_eq_left hk]

/-- Some bytes of a part have turned, all else of the store is as it was. -/
structure Turned (s s' : St) (pf nb : Nat) (P : Bs) : Prop where
  wf : s'.Wf
  n : s'.n = s.n
  pre : s'.pre = s.pre
  bs : s'.bs = s.bs.take (32 * pf) ++ P ++ s.bs.drop (32 * (pf + nb))
theorem Turned.part {s s' : St} {pf nb : Nat} {P : Bs} (hs : s.Wf) (h : s.Has pf nb) (hP : P.length = 32 * nb) (t : Turned s s' pf nb P) : partB s' pf nb = P := by
  unfold partB
  have h2 := h.2
  have := hs.len
  have hl : (s.bs.take (32 * pf)).length = 32 * pf := by rw [List.length_take]; omega
  rw [t.bs, List.append_assoc, List.drop_left' hl, List.take_left' hP]

theorem openS_spec {s : St} (hs : s.Wf) {pf nb fin : Nat} (h : s.Has pf nb) (hfin : fin ≤ 32 * nb) :
    (((openS s pf nb fin).2 = 0 ∧ Turned s (openS s pf nb fin).1 pf nb (openAll (partB s pf nb) fin) ∧ (openS s pf nb fin).1.down = s.down) ∨
      ((openS s pf nb fin).2 = 16 ∧ (openS s pf nb fin).1.down = true ∧ ∃ c, 32 * (fin / 32) ≤ c ∧ c ≤ 32 * nb ∧ Turned s (openS s pf nb fin).1 pf nb ((openAll (partB s pf nb) fin).take c ++ (partB s pf nb).drop c))) ∧
    (s.down = false → s.fuse = -1 → (openS s pf nb fin).2 = 0 ∧ (openS s pf nb fin).1.fuse = -1 ∧ (openS s pf nb fin).1.down = false) := by
  have hpl := partB_length hs h
  have hall := openAll_length (partB s pf nb) fin (by omega)
  have h2 := h.2
  have hln := hs.len
  have hA : (s.bs.take (32 * pf)).length = 32 * pf := by rw [List.length_take]; omega
  have h0 : s.bs = s.bs.take (32 * pf) ++ ((openAll (partB s pf nb) fin).take (32 * (fin / 32)) ++ (partB s pf nb).drop (32 * (fin / 32))) ++ s.bs.drop (32 * (pf + nb)) := by
    have e : (openAll (partB s pf nb) fin).take (32 * (fin / 32)) = (partB s pf nb).take (32 * (fin / 32)) := by
      unfold openAll
      exact take_take_le _ _ _ _ (by omega) (by omega)
    rw [e, List.take_append_drop]
    exact part_split hs h
  have hk : fin / 32 + (nb - fin / 32) = nb := by omega
  obtain ⟨a1, a2, a3, a4, a5⟩ := put_spec pf nb (openAll (partB s pf nb) fin) (partB s pf nb) _ _ false hA (by omega) hpl (nb - fin / 32) (fin / 32) s hs h0 (by omega)
  rw [hk] at a4
  refine ⟨?_, a5⟩
  rcases a4 with ⟨b1, b2, b3⟩ | ⟨b1, b2, c, b3, b4, b5⟩
  · refine Or.inl ⟨b1, ⟨a1, a2, a3, ?_⟩, b3⟩
    show (putL _ _ _ _ _ _ _).1.bs = _
    rw [b2, List.take_of_length_le (l := openAll (partB s pf nb) fin) (by omega), List.drop_of_length_le (l := partB s pf nb) (by omega), List.append_nil]
  · exact Or.inr ⟨b1, b2, c, b3, b4, ⟨a1, a2, a3, b5⟩⟩
theorem appendS_spec {s : St} (hs : s.Wf) {pf nb fin : Nat} (f : Bs) (h : s.Has pf nb) (hfin : fin + f.length ≤ 32 * nb) (hz : (partB s pf nb).drop (fin + f.length) = zs (32 * nb - (fin + f.length))) (hd : s.down = false) :
    (((appendS s pf nb fin f).2 = 0 ∧ Turned s (appendS s pf nb fin f).1 pf nb (appAll (partB s pf nb) fin f) ∧ (appendS s pf nb fin f).1.down = false) ∨
      ((appendS s pf nb fin f).2 = 16 ∧ (appendS s pf nb fin f).1.down = true ∧ ∃ c, 32 * (fin / 32) ≤ c ∧ Turned s (appendS s pf nb fin f).1 pf nb ((appAll (partB s pf nb) fin f).take c ++ (partB s pf nb).drop c))) ∧
    (s.fuse = -1 → (appendS s pf nb fin f).2 = 0 ∧ (appendS s pf nb fin f).1.fuse = -1) := by
  have hpl := partB_length hs h
  have hall := appAll_length (partB s pf nb) fin f (by omega)
  have h2 := h.2
  have hln := hs.len
  have hA : (s.bs.take (32 * pf)).length = 32 * pf := by rw [List.length_take]; omega
  have h0 : s.bs = s.bs.take (32 * pf) ++ ((appAll (partB s pf nb) fin f).take (32 * (fin / 32)) ++ (partB s pf nb).drop (32 * (fin / 32))) ++ s.bs.drop (32 * (pf + nb)) := by
    have e : (appAll (partB s pf nb) fin f).take (32 * (fin / 32)) = (partB s pf nb).take (32 * (fin / 32)) := by
      unfold appAll
      rw [List.append_assoc]
      exact take_take_le _ _ _ _ (by omega) (by omega)
    rw [e, List.take_append_drop]
    exact part_split hs h
  have hk : fin / 32 + ((fin + f.length + 31) / 32 - fin / 32) = (fin + f.length + 31) / 32 := by omega
  obtain ⟨a1, a2, a3, a4, a5⟩ := put_spec pf nb (appAll (partB s pf nb) fin f) (partB s pf nb) _ _ true hA (by omega) hpl ((fin + f.length + 31) / 32 - fin / 32) (fin / 32) s hs h0 (by omega)
  rw [hk] at a4
  refine ⟨?_, fun hf => ⟨(a5 hd hf).1, (a5 hd hf).2.1⟩⟩
  rcases a4 with ⟨b1, b2, b3⟩ | ⟨b1, b2, c, b3, b4, b5⟩
  · refine Or.inl ⟨b1, ⟨a1, a2, a3, ?_⟩, b3.trans hd⟩
    show (putL _ _ _ _ _ _ _).1.bs = _
    rw [b2]
    congr 2
    have hle : fin + f.length ≤ 32 * ((fin + f.length + 31) / 32) := by omega
    generalize 32 * ((fin + f.length + 31) / 32) = K at hle
    have e2 : (partB s pf nb).drop K = zs (32 * nb - K) := by
      rw [show K = fin + f.length + (K - (fin + f.length)) by omega, ← List.drop_drop, hz]
      unfold zs
      rw [List.drop_replicate]
      congr 1
      omega
    have e3 : (appAll (partB s pf nb) fin f).drop K = zs (32 * nb - K) := by
      have hl3 : ((partB s pf nb).take fin ++ f).length = fin + f.length := by rw [List.length_append, List.length_take]; omega
      unfold appAll
      rw [List.drop_append, List.drop_of_length_le (by omega), hl3, hpl, List.nil_append]
      unfold zs
      rw [List.drop_replicate]
      congr 1
      omega
    rw [e2, ← e3, List.take_append_drop]
  · exact Or.inr ⟨b1, b2, c, b3, ⟨a1, a2, a3, b5⟩⟩
end Go.Proofs.YtngcdkbnljoodaaGreatDoor

namespace Go.Proofs.YtngcdkbnljoodaaGreatDoor
set_option linter.unusedVariables false
set_option linter.unusedSimpArgs false

theorem zs_drop (a k : Nat) : (zs a).drop k = zs (a - k) := by unfold zs; rw [List.drop_replicate]
theorem zs_take (a k : Nat) (h : k ≤ a) : (zs a).take k = zs k := by unfold zs; rw [List.take_replicate, Nat.min_eq_left h]
theorem oneL_zs (n : Nat) : oneL (zs n) = none := oneL_zeros n

/-- The records of a part, frames from its head on, zeros behind. -/
structure Sound (s : St) (pf nb : Nat) (l : List Bs) : Prop where
  wf : s.Wf
  has : s.Has pf nb
  ok : ∀ r ∈ l, okR r
  fits : (frames l).length ≤ 32 * nb
  eq : partB s pf nb = frames l ++ zs (32 * nb - (frames l).length)
theorem Sound.scan {s : St} {pf nb : Nat} {l : List Bs} (h : Sound s pf nb l) : IsScan (partB s pf nb) l (zs (32 * nb - (frames l).length)) := ⟨h.eq, h.ok, oneL_zs _⟩
theorem Sound.tail {s : St} {pf nb : Nat} {l : List Bs} (h : Sound s pf nb l) (k : Nat) : (partB s pf nb).drop ((frames l).length + k) = zs (32 * nb - ((frames l).length + k)) := by
  rw [h.eq, ← List.drop_drop, List.drop_left' rfl, zs_drop]
  congr 1
  omega

theorem append_ok {s : St} {pf nb : Nat} {l : List Bs} (h : Sound s pf nb l) (hd : s.down = false) {r : Bs} (hr : okR r) (hroom : (frames l).length + (r.length + 8) ≤ 32 * nb) :
    ∃ P, P.length = 32 * nb ∧ Turned s (appendS s pf nb (frames l).length (frameL r)).1 pf nb P ∧
      (((appendS s pf nb (frames l).length (frameL r)).2 = 0 ∧ Sound (appendS s pf nb (frames l).length (frameL r)).1 pf nb (l ++ [r]) ∧ (appendS s pf nb (frames l).length (frameL r)).1.down = false) ∨
        ((appendS s pf nb (frames l).length (frameL r)).2 = 16 ∧ (appendS s pf nb (frames l).length (frameL r)).1.down = true ∧ ∃ m t, (m = l ∨ m = l ++ [r]) ∧ IsScan P m t)) ∧
      (s.fuse = -1 → (appendS s pf nb (frames l).length (frameL r)).2 = 0 ∧ (appendS s pf nb (frames l).length (frameL r)).1.fuse = -1) := by
  have hfl := frameL_length r
  have hpl := partB_length h.wf h.has
  have htl := h.tail (frameL r).length
  obtain ⟨a, b⟩ := appendS_spec h.wf (frameL r) h.has (by omega) htl hd
  have hall : appAll (partB s pf nb) (frames l).length (frameL r) = frames (l ++ [r]) ++ zs (32 * nb - (frames (l ++ [r])).length) := by
    unfold appAll
    have e := congrArg (List.take (frames l).length) h.eq
    rw [List.take_left' rfl] at e
    rw [hpl, e, frames_snoc, List.length_append]
  have hlen := appAll_length (partB s pf nb) (frames l).length (frameL r) (by omega)
  have hok2 : ∀ x ∈ l ++ [r], okR x := by
    intro x hx
    rcases List.mem_append.1 hx with hx | hx
    · exact h.ok x hx
    · rw [List.mem_singleton.1 hx]; exact hr
  rcases a with ⟨a1, a2, a3⟩ | ⟨a1, a2, c, a3, a4⟩
  · refine ⟨_, by omega, a2, Or.inl ⟨a1, ⟨a2.wf, ⟨h.has.1, by have := h.has.2; rw [a2.n]; exact this⟩, hok2, by rw [frames_snoc, List.length_append]; omega, ?_⟩, a3⟩, b⟩
    rw [a2.part h.wf h.has (by omega), hall]
  · refine ⟨_, ?_, a4, Or.inr ⟨a1, a2, ?_⟩, b⟩
    · rw [List.length_append, List.length_take, List.length_drop]; omega
    · rw [hall]
      generalize hF : (frames l).length = F at *
      have hF2 : (frames (l ++ [r])).length = F + (r.length + 8) := by rw [frames_snoc, List.length_append, hF, hfl]
      rw [hF2]
      -- the torn part: the old records, the frame's head, zeros
      rcases Nat.lt_or_ge c F with h1 | h1
      · refine ⟨l, _, Or.inl rfl, ⟨?_, h.ok, oneL_zs (32 * nb - F)⟩⟩
        rw [frames_snoc, List.append_assoc, List.take_append_of_le_length (by omega)]
        rw [h.eq, List.drop_append_of_le_length (by omega), ← List.append_assoc, List.take_append_drop, hF]
      · rcases Nat.lt_or_ge c (F + (r.length + 8)) with h2 | h2
        · refine ⟨l, _, Or.inl rfl, ⟨?_, h.ok, oneL_torn r hr (c - F) (32 * nb - c) (by omega)⟩⟩
          rw [frames_snoc, List.append_assoc, List.take_append, List.take_of_length_le (by omega : (frames l).length ≤ c), hF, List.take_append_of_le_length (by omega)]
          rw [show c = (frames l).length + (c - F) by omega, h.tail, List.append_assoc, hF]
          rw [show F + (c - F) - F = c - F by omega]
          rfl
        · refine ⟨l ++ [r], _, Or.inr rfl, ⟨?_, hok2, oneL_zs (32 * nb - (F + (r.length + 8)))⟩⟩
          rw [List.take_append, List.take_of_length_le (by omega : (frames (l ++ [r])).length ≤ c), hF2]
          have htc := h.tail (c - (frames l).length)
          rw [show (frames l).length + (c - (frames l).length) = c by omega] at htc
          rw [htc, List.append_assoc]
          congr 1
          unfold zs
          rw [List.take_replicate, List.replicate_append_replicate]
          congr 1
          rcases Nat.lt_or_ge (32 * nb) c with h3 | h3
          · rw [Nat.min_eq_right (by omega)]; omega
          · rw [Nat.min_eq_left (by omega)]; omega

theorem open_ok {s : St} (hs : s.Wf) {pf nb : Nat} (h : s.Has pf nb) {l : List Bs} {t : Bs} (hsc : IsScan (partB s pf nb) l t) :
    ∃ P, P.length = 32 * nb ∧ Turned s (openS s pf nb (frames l).length).1 pf nb P ∧
      (((openS s pf nb (frames l).length).2 = 0 ∧ Sound (openS s pf nb (frames l).length).1 pf nb l ∧ (openS s pf nb (frames l).length).1.down = s.down) ∨
        ((openS s pf nb (frames l).length).2 = 16 ∧ (openS s pf nb (frames l).length).1.down = true ∧ ∃ t', IsScan P l t')) ∧
      (s.down = false → s.fuse = -1 → (openS s pf nb (frames l).length).2 = 0 ∧ (openS s pf nb (frames l).length).1.fuse = -1) := by
  have hpl := partB_length hs h
  have hfl : (frames l).length ≤ 32 * nb := by
    have := congrArg List.length hsc.eq
    rw [List.length_append] at this
    omega
  obtain ⟨a, b⟩ := openS_spec hs h hfl
  have hall : openAll (partB s pf nb) (frames l).length = frames l ++ zs (32 * nb - (frames l).length) := by
    unfold openAll
    have e := congrArg (List.take (frames l).length) hsc.eq
    rw [List.take_left' rfl] at e
    rw [hpl, e]
  have hlen := openAll_length (partB s pf nb) (frames l).length (by omega)
  refine ⟨if (openS s pf nb (frames l).length).2 = 0 then openAll (partB s pf nb) (frames l).length else partB (openS s pf nb (frames l).length).1 pf nb, ?_⟩
  rcases a with ⟨a1, a2, a3⟩ | ⟨a1, a2, c, a3, a4, a5⟩
  · rw [if_pos a1]
    refine ⟨by omega, a2, Or.inl ⟨a1, ⟨a2.wf, ⟨h.1, by have := h.2; rw [a2.n]; exact this⟩, hsc.ok, hfl, ?_⟩, a3⟩, fun hd hf => ⟨(b hd hf).1, (b hd hf).2.1⟩⟩
    rw [a2.part hs h (by omega), hall]
  · have hPl : ((openAll (partB s pf nb) (frames l).length).take c ++ (partB s pf nb).drop c).length = 32 * nb := by rw [List.length_append, List.length_take, List.length_drop]; omega
    have hP := a5.part hs h hPl
    rw [if_neg (by rw [a1]; decide), hP]
    refine ⟨hPl, a5, Or.inr ⟨a1, a2, ?_⟩, fun hd hf => ⟨(b hd hf).1, (b hd hf).2.1⟩⟩
    rw [hall]
    generalize hF : (frames l).length = F at *
    rcases Nat.lt_or_ge F c with h1 | h1
    · refine ⟨(zs (32 * nb - F)).take (c - F) ++ (partB s pf nb).drop c, ?_, hsc.ok, ?_⟩
      · rw [List.take_append, List.take_of_length_le (by omega : (frames l).length ≤ c), hF, List.append_assoc]
      · refine oneL_first ?_
        rw [zs_take _ _ (by omega), List.getD_eq_getElem?_getD, List.getElem?_append_left (by rw [zs_length]; omega)]
        unfold zs
        rw [List.getElem?_replicate]
        split <;> decide
    · refine ⟨t, ?_, hsc.ok, hsc.stop⟩
      rw [List.take_append_of_le_length (by omega)]
      rw [hsc.eq, List.drop_append_of_le_length (by omega), ← List.append_assoc, List.take_append_drop]

def St.up (s : St) : St := { s with down := false, fuse := -1 }
theorem St.up_wf {s : St} (h : s.Wf) : s.up.Wf := ⟨h.len, h.pre, by show (-1 : Int) ≤ -1; decide, by show (-1 : Int) ≤ 9223372036854775807; decide, h.lo, h.hi⟩
theorem Sound.up {s : St} {pf nb : Nat} {l : List Bs} (h : Sound s pf nb l) : Sound s.up pf nb l := ⟨St.up_wf h.wf, h.has, h.ok, h.fits, h.eq⟩
def St.setFuse (s : St) (a b : Int) : St := { s with fuse := max a (-1), pre := (max b 0 % 33).toNat }
theorem St.setFuse_wf {s : St} (h : s.Wf) (a b : Int) (ha : a ≤ 9223372036854775807) : (s.setFuse a b).Wf := ⟨h.len, by show (max b 0 % 33).toNat ≤ 32; omega, by show (-1 : Int) ≤ max a (-1); omega, by show max a (-1) ≤ 9223372036854775807; omega, h.lo, h.hi⟩
theorem Sound.setFuse {s : St} {pf nb : Nat} {l : List Bs} (h : Sound s pf nb l) (a b : Int) (ha : a ≤ 9223372036854775807) : Sound (s.setFuse a b) pf nb l := ⟨St.setFuse_wf h.wf a b ha, h.has, h.ok, h.fits, h.eq⟩
def St.new (n : Nat) : St := { n := n, bs := zs (32 * n), fuse := -1, pre := 0, down := false }
theorem St.new_wf {n : Nat} (h1 : 1 ≤ n) (h2 : n ≤ 256) : (St.new n).Wf := ⟨zs_length _, Nat.zero_le _, by show (-1 : Int) ≤ -1; decide, by show (-1 : Int) ≤ 9223372036854775807; decide, h1, h2⟩
theorem part_new {n pf nb : Nat} (h : (St.new n).Has pf nb) : partB (St.new n) pf nb = zs (32 * nb) := by
  have h2 : pf + nb ≤ n := h.2
  unfold partB
  show ((zs (32 * n)).drop _).take _ = _
  rw [zs_drop, zs_take _ _ (by omega)]
end Go.Proofs.YtngcdkbnljoodaaGreatDoor

namespace Go.Proofs.YtngcdkbnljoodaaGreatDoor
set_option linter.unusedVariables false
set_option linter.unusedSimpArgs false
open Go.RowKit

def u8v (l : Bs) : List Value := l.map fun b => Value.int .u8 (b.toNat : Int)
theorem u8v_length (l : Bs) : (u8v l).length = l.length := List.length_map ..
theorem u8v_append (a b : Bs) : u8v (a ++ b) = u8v a ++ u8v b := List.map_append
theorem u8v_take (l : Bs) (k : Nat) : (u8v l).take k = u8v (l.take k) := List.map_take.symm
theorem u8v_drop (l : Bs) (k : Nat) : (u8v l).drop k = u8v (l.drop k) := List.map_drop.symm
theorem u8v_one (l : Bs) : ∀ v ∈ u8v l, v.oneCell' = true := by
  intro v hv
  obtain ⟨b, _, rfl⟩ := List.mem_map.1 hv
  rfl
theorem u8v_splice (l : Bs) (k : Nat) (d : Bs) : Go.splice (u8v l) k (u8v d) = u8v (splice l k d) := by
  unfold Go.splice splice
  rw [u8v_length, u8v_append, u8v_append, u8v_take, u8v_drop, List.append_assoc]

/-- Of the blocks that were there, those of a list alone may have turned. -/
structure Only (S : List Nat) (w w' : World) : Prop where
  os : w'.os = w.os
  tape : w'.tape = w.tape
  output : w'.output = w.output
  size : w.heap.size ≤ w'.heap.size
  block : ∀ k, k < w.heap.size → k ∉ S → w'.heap[k]? = w.heap[k]?
theorem Only.refl (S : List Nat) (w : World) : Only S w w := ⟨rfl, rfl, rfl, Nat.le_refl _, fun _ _ _ => rfl⟩
theorem Only.trans {S T : List Nat} {a b c : World} (h : Only S a b) (k : Only T b c) (hT : ∀ x, x ∈ T → x ∈ S ∨ a.heap.size ≤ x) : Only S a c :=
  ⟨k.os.trans h.os, k.tape.trans h.tape, k.output.trans h.output, Nat.le_trans h.size k.size, fun i hi hn =>
    (k.block i (Nat.lt_of_lt_of_le hi h.size) (fun hm => by rcases hT i hm with h1 | h1; exact hn h1; omega)).trans (h.block i hi hn)⟩
theorem Only.tr {S : List Nat} {a b c : World} (h : Only S a b) (k : Only S b c) : Only S a c := h.trans k fun _ hx => Or.inl hx
theorem Only.mono {S T : List Nat} {a b : World} (h : Only S a b) (hT : ∀ x, x ∈ S → x ∈ T) : Only T a b := ⟨h.os, h.tape, h.output, h.size, fun k hk hn => h.block k hk fun hm => hn (hT k hm)⟩
theorem Only.of_below {S : List Nat} {a b : World} (h : Below a.heap.size a b) : Only S a b := ⟨h.os, h.tape, h.output, h.size, fun k hk _ => h.block k hk⟩
theorem Only.below {S : List Nat} {a b : World} (h : Only S a b) {B : Nat} (hB : B ≤ a.heap.size) (hS : ∀ x, x ∈ S → B ≤ x) : Below B a b :=
  ⟨h.os, h.tape, h.output, h.size, fun k hk => h.block k (by omega) fun hm => by have := hS k hm; omega⟩
theorem Only.drew {S : List Nat} {a b : World} (h : Only S a b) : Only S a b.drew := ⟨h.os, h.tape, h.output, h.size, h.block⟩
theorem Only.drewN {S : List Nat} {a b : World} (h : Only S a b) (n : Nat) : Only S a (b.drewN n) := ⟨h.os, h.tape, h.output, h.size, h.block⟩
theorem Only.alloc {S : List Nat} {a b : World} (h : Only S a b) (o : Obj) : Only S a (b.alloc o) :=
  h.tr ⟨rfl, rfl, rfl, by simp, fun k hk _ => Below.heap_alloc _ _ _ (by omega)⟩
theorem Only.setCell {S : List Nat} {a b : World} (h : Only S a b) {p : Addr} (hp : p.block ∈ S ∨ a.heap.size ≤ p.block) (u : Value) : Only S a (b.setCell p u) :=
  h.trans (T := [p.block]) ⟨rfl, rfl, rfl, by simp [World.setCell], fun k hk hn => Below.heap_setCell _ _ _ _ (by simpa using hn)⟩ (fun x hx => by rw [List.mem_singleton.1 hx]; exact hp)
theorem Only.grown {S : List Nat} {a b c : World} {row : Option Nat} (h : Only S a b) (hg : b.grownBy c row) (hr : ∀ k, row = some k → k ∈ S ∨ a.heap.size ≤ k) : Only S a c :=
  ⟨hg.os.trans h.os, hg.tape.trans h.tape, hg.output.trans h.output, Nat.le_trans h.size hg.size, fun k hk hn =>
    (hg.block k (Nat.lt_of_lt_of_le hk h.size) (fun e => by rcases hr k e.symm with h1 | h1; exact hn h1; omega)).trans (h.block k hk hn)⟩
theorem Only.setRow {S : List Nat} {a b : World} (h : Only S a b) {g : Nat} (hg : g ∈ S ∨ a.heap.size ≤ g) (cs : Array Value) : Only S a (b.setRow g cs) :=
  h.trans (T := [g]) ⟨rfl, rfl, rfl, by simp [World.setRow], fun k hk hn => setRow_other b g k cs (by simpa using hn)⟩ (fun x hx => by rw [List.mem_singleton.1 hx]; exact hg)
theorem Only.blk {S : List Nat} {a b : World} (h : Only S a b) {k : Nat} {o : Obj} (hk : a.heap[k]? = some o) (hn : k ∉ S) : b.heap[k]? = some o :=
  (h.block k (Array.getElem?_eq_some_iff.1 hk).1 hn).trans hk

theorem run_copy_string {P : Program} (w : World) (dT sT ty elem : TypeId) (g o dLen dCap n : Nat) (st : ByteArray) (cur : List Value) (t : TypeId)
    (hu : P.underlying dT = some (.slice elem)) (hs : (P.info? elem).map (·.size) = some 1)
    (hg : w.heap[g]? = some (.cells cur.toArray t (0, 0))) (hn : n = Nat.min st.size dLen) (hfit : o + n ≤ cur.length) :
    (Builtin.copy_ #[dT, sT] ty #[.slice (some ⟨g, o, none⟩) dLen dCap, .string st]).run P w =
      .ok (goInt n) (w.setRow g (Go.splice cur o (u8v (st.data.toList.take n))).toArray) := by
  have hlen : (u8v (st.data.toList.take n)).length = n := by
    rw [u8v_length, List.length_take]
    have h1 : st.data.toList.length = st.size := rfl
    have h2 : Nat.min st.size dLen ≤ st.size := Nat.min_le_left _ _
    omega
  have hst := run_storeCells_at P g o t (u8v (st.data.toList.take n)) 0 cur.toArray w hg (by rw [hlen, List.size_toArray]; omega) (u8v_one _)
  cases hq : P.info? elem with
  | none => simp [hq] at hs
  | some i =>
    simp [Builtin.copy_, run_underlying hu, Builtin.lenOf, Builtin.firstCells, sizeOf, typeInfo, hq, ← hn]
    have hcells' : List.take n (List.map (fun b : UInt8 => Value.int IntKind.u8 (b.toNat : Int)) st.data.toList) = u8v (st.data.toList.take n) := by unfold u8v; rw [List.map_take]
    rw [hcells']
    rw [hst]
    simp [Go.splice]
theorem run_loadVar_seg {P : Program} (w : World) (g o : Nat) (ty : TypeId) (cs : List Value) (d : TypeDesc) (hc : ∀ j v, cs[j]? = some v → w.cell? ⟨g, o + j, none⟩ = some v)
    (hu : P.underlying ty = some d) (hd : (match d with | .struct _ | .array _ _ => true | _ => false) = true) (hi : (P.info? ty).map (·.size) = some cs.length) :
    (loadVar ty ⟨g, o, none⟩).run P w = .ok (.agg cs.toArray) w := by
  have hl : (loadCells ⟨g, o, none⟩ cs.length).run P w = .ok cs.toArray w :=
    run_loadCells_list (P := P) w ⟨g, o, none⟩ cs (fun j v hv => by
      have hadd : (⟨g, o, none⟩ : Addr).add j = ⟨g, o + j, none⟩ := by unfold Addr.add; split <;> simp_all
      rw [hadd]
      exact hc j v hv)
  cases hq : P.info? ty with
  | none => simp [hq] at hi
  | some i =>
    have hs : i.size = cs.length := by simpa [hq] using hi
    have hagg : (isAgg ty).run P w = .ok true w := by
      unfold isAgg
      rw [Sem.run_bind, run_underlying hu w]
      cases d <;> simp_all
    simp [loadVar, Sem.run_bind, hagg, sizeOf, typeInfo, hq, hs, hl]
theorem wpList_load_seg {P : Program} {ops : Array Oper} {rest : List Oper} {o : Oper} {a : Act} {w : World} {Q : Exit → Act → World → Prop} (hgd : o.guard = none) (ty : TypeId) (x : Operand) (ho : o.op = .load ty x)
    (g k : Nat) (hx : a.eval x = .pointer (some ⟨g, k, none⟩)) (cs : List Value) (d : TypeDesc) (hc : ∀ j v, cs[j]? = some v → w.cell? ⟨g, k + j, none⟩ = some v)
    (hu : P.underlying ty = some d) (hd : (match d with | .struct _ | .array _ _ => true | _ => false) = true) (hi : (P.info? ty).map (·.size) = some cs.length)
    (h : wpList P ops Q rest (a.put o.dst (.agg cs.toArray)) w) : wpList P ops Q (o :: rest) a w := by
  refine wpList_plain hgd fun _ hK => ?_
  unfold Oper.wp execOp
  simp only [ho, hx, Instr.loadAt, Instr.sureAddr, Sem.run_bind, Sem.run_pure, Result.andThen_ok, run_loadVar_seg w g k ty cs d hc hu hd hi]
  exact hK _ _ h
theorem wpList_store_new {P : Program} {ops : Array Oper} {rest : List Oper} {o : Oper} {a : Act} {w : World} {Q : Exit → Act → World → Prop} (hgd : o.guard = none) (ty : TypeId) (x y : Operand) (ho : o.op = .store ty x y) (hdst : o.dst = none)
    (hx : a.eval x = .pointer (some ⟨w.heap.size, 0, none⟩)) (c c' : Array Value) (hy : a.eval y = .agg c') (hi : (P.info? ty).map (·.size) = some c'.size) (hs : c.size = c'.size) (h1 : c'.all (·.oneCell') = true)
    (h : wpList P ops Q rest a (w.alloc (.cells c' ty))) : wpList P ops Q (o :: rest) a (w.alloc (.cells c ty)) := by
  refine wpList_plain hgd fun _ hK => ?_
  have hr := run_storeAt_new (P := P) w ty c c' hi hs h1
  unfold Oper.wp execOp
  simp only [ho, hx, hy, Sem.run_bind, hr, Result.andThen_ok, Sem.run_pure]
  exact hK _ _ (by rw [hdst]; exact h)
end Go.Proofs.YtngcdkbnljoodaaGreatDoor

