/- The plain part for a log of frames over blocks of bytes: sums, frames, what a scan finds, what a store's write leaves. No program in sight. No conditions beyond those typed. -/
import Derived.Lib.Strings
namespace Go.Proofs.Ytngcdkbnljoodaa
set_option linter.unusedVariables false
set_option linter.unusedSimpArgs false

abbrev Bs := List UInt8
def mkS (l : Bs) : ByteArray := ⟨l.toArray⟩
theorem mkS_list (s : ByteArray) : mkS s.data.toList = s := by cases s; rfl
theorem list_mkS (l : Bs) : (mkS l).data.toList = l := by simp [mkS]
theorem size_mkS (l : Bs) : (mkS l).size = l.length := by simp [mkS, ByteArray.size]
theorem mkS_inj {a b : Bs} (h : mkS a = mkS b) : a = b := by
  have := congrArg (fun s => s.data.toList) h
  simpa [list_mkS] using this

def crcBit (n : Nat) : Nat := (n / 2) ^^^ (if n % 2 = 1 then 3988292384 else 0)
def crcIt : Nat → Nat → Nat
  | 0, n => n
  | k + 1, n => crcIt k (crcBit n)
def crcByte (n : Nat) (c : UInt8) : Nat := crcIt 8 (n ^^^ c.toNat)
def crcFold (l : Bs) : Nat := l.foldl crcByte 4294967295
def crc (l : Bs) : Nat := 4294967295 - crcFold l
theorem crcBit_lt {n : Nat} (h : n < 2 ^ 32) : crcBit n < 2 ^ 32 := by
  unfold crcBit
  refine Nat.xor_lt_two_pow (by omega) ?_
  split <;> decide
theorem crcIt_lt (k : Nat) : ∀ {n : Nat}, n < 2 ^ 32 → crcIt k n < 2 ^ 32 := by
  induction k with
  | zero => intro n h; exact h
  | succ k ih => intro n h; exact ih (crcBit_lt h)
theorem crcIt_succ (k : Nat) : ∀ n : Nat, crcIt (k + 1) n = crcBit (crcIt k n) := by
  induction k with
  | zero => intro n; rfl
  | succ k ih => intro n; show crcIt (k + 1) (crcBit n) = crcBit (crcIt k (crcBit n)); exact ih _
theorem crcByte_lt {n : Nat} (c : UInt8) (h : n < 2 ^ 32) : crcByte n c < 2 ^ 32 :=
  crcIt_lt 8 (Nat.xor_lt_two_pow h (Nat.lt_of_lt_of_le c.toNat_lt (by decide)))
theorem crcFoldl_lt (l : Bs) : ∀ {n : Nat}, n < 2 ^ 32 → l.foldl crcByte n < 2 ^ 32 := by
  induction l with
  | nil => intro n h; exact h
  | cons c l ih => intro n h; exact ih (crcByte_lt c h)
theorem crcFold_lt (l : Bs) : crcFold l < 2 ^ 32 := crcFoldl_lt l (by decide)
theorem crcFold_snoc (l : Bs) (c : UInt8) : crcFold (l ++ [c]) = crcByte (crcFold l) c := by simp [crcFold]
theorem crc_lt (l : Bs) : crc l < 2 ^ 32 := by unfold crc; omega

def b8 (n : Nat) : UInt8 := UInt8.ofNat n
theorem b8_toNat (n : Nat) : (b8 n).toNat = n % 256 := by simp [b8]
def headL (r : Bs) : Bs := [1, b8 (r.length / 256), b8 r.length, b8 (crc r / 16777216), b8 (crc r / 65536), b8 (crc r / 256), b8 (crc r)]
def frameL (r : Bs) : Bs := headL r ++ r ++ [1]
theorem headL_length (r : Bs) : (headL r).length = 7 := rfl
theorem frameL_length (r : Bs) : (frameL r).length = r.length + 8 := by simp [frameL, headL_length]; omega
def frames (l : List Bs) : Bs := l.flatMap frameL
theorem frames_nil : frames [] = [] := rfl
theorem frames_cons (r : Bs) (l : List Bs) : frames (r :: l) = frameL r ++ frames l := rfl
theorem frames_snoc (l : List Bs) (r : Bs) : frames (l ++ [r]) = frames l ++ frameL r := by simp [frames]
theorem frames_append (l m : List Bs) : frames (l ++ m) = frames l ++ frames m := by simp [frames]
/-- A record that has a frame. -/
def okR (r : Bs) : Prop := 1 ≤ r.length ∧ r.length ≤ 400
instance (r : Bs) : Decidable (okR r) := by unfold okR; infer_instance

def lenL (s : Bs) : Nat := 256 * (s.getD 1 0).toNat + (s.getD 2 0).toNat
/-- The record whose frame bytes begin with. -/
def oneL (s : Bs) : Option Bs :=
  if s.length < 9 then none
  else if 1 ≤ lenL s ∧ lenL s ≤ 400 ∧ lenL s + 8 ≤ s.length ∧ s.take (lenL s + 8) = frameL ((s.drop 7).take (lenL s)) then some ((s.drop 7).take (lenL s)) else none

theorem lenL_frame (r t : Bs) (h : okR r) : lenL (frameL r ++ t) = r.length := by
  have h2 := h.2
  unfold lenL frameL headL
  simp [b8_toNat]
  omega
theorem drop7_frame (r t : Bs) : (frameL r ++ t).drop 7 = r ++ ([1] ++ t) := by
  unfold frameL headL
  simp
theorem oneL_frame (r t : Bs) (h : okR r) : oneL (frameL r ++ t) = some r := by
  have hl := lenL_frame r t h
  have h1 := h.1
  unfold oneL
  rw [if_neg (by rw [List.length_append, frameL_length]; omega), hl, drop7_frame, List.take_left' rfl, List.take_left' (by rw [frameL_length]), if_pos]
  exact ⟨h.1, h.2, by rw [List.length_append, frameL_length]; omega, rfl⟩
theorem oneL_some {s r : Bs} (h : oneL s = some r) : okR r ∧ s = frameL r ++ s.drop (r.length + 8) := by
  unfold oneL at h
  split at h
  · cases h
  · split at h
    · rename_i h0 h1
      obtain ⟨h1, h2, h3, h4⟩ := h1
      have hr : (s.drop 7).take (lenL s) = r := Option.some.inj h
      have hlen : r.length = lenL s := by rw [← hr, List.length_take, List.length_drop]; omega
      refine ⟨⟨by omega, by omega⟩, ?_⟩
      rw [hr] at h4
      rw [hlen, ← h4, List.take_append_drop]
    · cases h
theorem oneL_first {s : Bs} (h : s.getD 0 0 ≠ 1) : oneL s = none := by
  cases h1 : oneL s with
  | none => rfl
  | some r =>
    obtain ⟨_, h2⟩ := oneL_some h1
    exfalso
    rw [h2] at h
    exact h (by simp [frameL, headL])
theorem oneL_short {s : Bs} (h : s.length < 9) : oneL s = none := by unfold oneL; rw [if_pos h]
theorem getD_take_rep (f : Bs) (c m i : Nat) (h : c ≤ i) : (f.take c ++ List.replicate m 0).getD i 0 = 0 := by
  rw [List.getD_eq_getElem?_getD]
  rcases Nat.lt_or_ge i (f.take c).length with h1 | h1
  · rw [List.length_take] at h1; omega
  · rw [List.getElem?_append_right h1]
    rw [List.getElem?_replicate]
    split <;> rfl
theorem getD_take_lt (f t : Bs) (c i : Nat) (h : i < c) (hc : c ≤ f.length) : (f.take c ++ t).getD i 0 = f.getD i 0 := by
  rw [List.getD_eq_getElem?_getD, List.getD_eq_getElem?_getD, List.getElem?_append_left (by rw [List.length_take]; omega), List.getElem?_take, if_pos h]
/-- A frame that is torn off, zeros behind, is none. -/
theorem oneL_torn (r : Bs) (hr : okR r) (c m : Nat) (hc : c < r.length + 8) : oneL ((frameL r).take c ++ List.replicate m 0) = none := by
  cases h1 : oneL ((frameL r).take c ++ List.replicate m 0) with
  | none => rfl
  | some q =>
    exfalso
    obtain ⟨hq, h2⟩ := oneL_some h1
    have hfl := frameL_length r
    have hl : lenL ((frameL r).take c ++ List.replicate m 0) = q.length := by rw [h2]; exact lenL_frame q _ hq
    have hlast : ((frameL r).take c ++ List.replicate m 0).getD (q.length + 7) 0 = 1 := by
      rw [h2, List.getD_eq_getElem?_getD, List.getElem?_append_left (by rw [frameL_length]; omega)]
      unfold frameL
      rw [List.getElem?_append_right (by rw [List.length_append, headL_length]; omega), List.length_append, headL_length]
      rw [show q.length + 7 - (7 + q.length) = 0 by omega]
      rfl
    rcases Nat.lt_or_ge (q.length + 7) c with h3 | h3
    · have hl2 : lenL ((frameL r).take c ++ List.replicate m 0) = lenL (frameL r ++ []) := by
        unfold lenL
        rw [getD_take_lt _ _ c 1 (by omega) (by omega), getD_take_lt _ _ c 2 (by omega) (by omega), List.append_nil]
      rw [lenL_frame r [] hr] at hl2
      omega
    · rw [getD_take_rep _ _ _ _ h3] at hlast
      exact absurd hlast (by decide)
theorem oneL_zeros (m : Nat) : oneL (List.replicate m 0) = none := by
  refine oneL_first ?_
  rw [List.getD_eq_getElem?_getD, List.getElem?_replicate]
  split <;> decide

/-- What a scan of bytes finds: the records, and what is left. -/
structure IsScan (s : Bs) (l : List Bs) (t : Bs) : Prop where
  eq : s = frames l ++ t
  ok : ∀ r ∈ l, okR r
  stop : oneL t = none
theorem IsScan.uniq {s : Bs} {l m : List Bs} {t u : Bs} (h : IsScan s l t) (k : IsScan s m u) : l = m ∧ t = u := by
  induction l generalizing s m with
  | nil =>
    cases m with
    | nil => exact ⟨rfl, by have := h.eq.symm.trans k.eq; simpa [frames] using this⟩
    | cons r m =>
      have e : t = frameL r ++ (frames m ++ u) := by have := h.eq.symm.trans k.eq; simpa [frames] using this
      have := h.stop
      rw [e, oneL_frame r _ (k.ok r (by simp))] at this
      cases this
  | cons r l ih =>
    have e1 : s = frameL r ++ (frames l ++ t) := by have := h.eq; rw [frames_cons, List.append_assoc] at this; exact this
    cases m with
    | nil =>
      have e : u = frameL r ++ (frames l ++ t) := by have := k.eq.symm.trans e1; simpa [frames] using this
      have := k.stop
      rw [e, oneL_frame r _ (h.ok r (by simp))] at this
      cases this
    | cons q m =>
      have e2 : s = frameL q ++ (frames m ++ u) := by have := k.eq; rw [frames_cons, List.append_assoc] at this; exact this
      have o1 := oneL_frame r (frames l ++ t) (h.ok r (by simp))
      have o2 := oneL_frame q (frames m ++ u) (k.ok q (by simp))
      rw [← e1] at o1
      rw [← e2, o1] at o2
      obtain rfl : r = q := Option.some.inj o2
      have e3 : frames l ++ t = frames m ++ u := List.append_cancel_left (e1.symm.trans e2)
      have := ih (s := frames l ++ t) (m := m) ⟨rfl, fun x hx => h.ok x (by simp [hx]), h.stop⟩ ⟨e3, fun x hx => k.ok x (by simp [hx]), k.stop⟩
      exact ⟨by rw [this.1], this.2⟩
theorem IsScan.step {s : Bs} {l : List Bs} {t r : Bs} (h : s = frames l ++ t) (ok : ∀ x ∈ l, okR x) (h1 : oneL t = some r) : s = frames (l ++ [r]) ++ t.drop (r.length + 8) ∧ (∀ x ∈ l ++ [r], okR x) := by
  obtain ⟨h2, h3⟩ := oneL_some h1
  refine ⟨?_, ?_⟩
  · rw [frames_snoc, List.append_assoc, ← h3]; exact h
  · intro x hx
    rcases List.mem_append.1 hx with hx | hx
    · exact ok x hx
    · rw [List.mem_singleton.1 hx]; exact h2
theorem isScan_exists : ∀ (n : Nat) (s : Bs), s.length ≤ n → ∃ l t, IsScan s l t := by
  intro n
  induction n with
  | zero => intro s h; exact ⟨[], s, rfl, by simp, oneL_short (by omega)⟩
  | succ n ih =>
    intro s h
    cases h1 : oneL s with
    | none => exact ⟨[], s, rfl, by simp, h1⟩
    | some r =>
      obtain ⟨h2, h3⟩ := oneL_some h1
      obtain ⟨l, t, h4⟩ := ih (s.drop (r.length + 8)) (by rw [List.length_drop]; omega)
      refine ⟨r :: l, t, ?_, ?_, h4.stop⟩
      · rw [frames_cons, List.append_assoc, ← h4.eq]; exact h3
      · intro x hx
        rcases List.mem_cons.1 hx with hx | hx
        · rw [hx]; exact h2
        · exact h4.ok x hx
theorem frames_pos {l : List Bs} {r : Bs} (h : r ∈ l) : r.length + 8 ≤ (frames l).length := by
  induction l with
  | nil => cases h
  | cons q l ih =>
    rw [frames_cons, List.length_append, frameL_length]
    rcases List.mem_cons.1 h with h | h
    · rw [h]; omega
    · have := ih h; omega

/-- A store's state: blocks of 32 bytes in a row; a fuse (below 0: none), its prefix; is it down. -/
structure St where
  n : Nat
  bs : Bs
  fuse : Int
  pre : Nat
  down : Bool
structure St.Wf (s : St) : Prop where
  len : s.bs.length = 32 * s.n
  pre : s.pre ≤ 32
  fuse : -1 ≤ s.fuse
  top : s.fuse ≤ 9223372036854775807
  lo : 1 ≤ s.n
  hi : s.n ≤ 256
def St.may (s : St) (i : Int) : Int := if s.down = true then 16 else if i < 0 ∨ (s.n : Int) ≤ i then 3 else 0
def splice (l : Bs) (k : Nat) (d : Bs) : Bs := l.take k ++ d ++ l.drop (k + d.length)
theorem splice_length (l : Bs) (k : Nat) (d : Bs) (h : k + d.length ≤ l.length) : (splice l k d).length = l.length := by
  unfold splice; simp; omega
def St.write (s : St) (i : Int) (d : Bs) : St × Int :=
  if s.may i ≠ 0 then (s, s.may i)
  else if d.length ≠ 32 then (s, 1)
  else if s.fuse = 0 then ({ s with bs := splice s.bs (32 * i.toNat) (d.take s.pre), down := true, fuse := -1 }, 16)
  else ({ s with bs := splice s.bs (32 * i.toNat) d, fuse := max (s.fuse - 1) (-1) }, 0)
theorem St.may_cases (s : St) (i : Int) : (s.may i = 16 ∧ s.down = true) ∨ (s.may i = 3 ∧ s.down = false ∧ (i < 0 ∨ (s.n : Int) ≤ i)) ∨ (s.may i = 0 ∧ s.down = false ∧ 0 ≤ i ∧ i < s.n) := by
  unfold St.may
  cases h : s.down
  · by_cases h1 : i < 0 ∨ (s.n : Int) ≤ i
    · right; left; simp [h1]
    · right; right; simp [h1]; omega
  · left; simp
theorem St.write_wf {s : St} (h : s.Wf) (i : Int) (d : Bs) : (s.write i d).1.Wf ∧ (s.write i d).1.n = s.n ∧ (s.write i d).1.pre = s.pre := by
  have hl := h.len
  have hp := h.pre
  unfold St.write
  rcases s.may_cases i with ⟨h1, h2⟩ | ⟨h1, h2, h3⟩ | ⟨h1, h2, h3, h4⟩
  · rw [if_pos (by rw [h1]; decide)]; exact ⟨h, rfl, rfl⟩
  · rw [if_pos (by rw [h1]; decide)]; exact ⟨h, rfl, rfl⟩
  · rw [if_neg (by rw [h1]; decide)]
    by_cases h5 : d.length ≠ 32
    · rw [if_pos h5]; exact ⟨h, rfl, rfl⟩
    · have h5' : d.length = 32 := by omega
      rw [if_neg h5]
      have hk : 32 * i.toNat + 32 ≤ s.bs.length := by omega
      by_cases h6 : s.fuse = 0
      · rw [if_pos h6]
        exact ⟨⟨by show (splice _ _ _).length = _; rw [splice_length _ _ _ (by rw [List.length_take]; omega), hl], h.pre, by show (-1 : Int) ≤ -1; decide, by show (-1 : Int) ≤ 9223372036854775807; decide, h.lo, h.hi⟩, rfl, rfl⟩
      · rw [if_neg h6]
        exact ⟨⟨by show (splice _ _ _).length = _; rw [splice_length _ _ _ (by omega), hl], h.pre, by show -1 ≤ max _ _; omega, by show max _ _ ≤ (9223372036854775807 : Int); have := h.top; omega, h.lo, h.hi⟩, rfl, rfl⟩
end Go.Proofs.Ytngcdkbnljoodaa
