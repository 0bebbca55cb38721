/- The reference's journal walks: parts, scans, opening. No conditions beyond those typed. -/
import Derived.Test.YtngcdkbnljoodaaGreatDoorMrgM
namespace Go.Proofs.YtngcdkbnljoodaaGreatDoor
set_option linter.unusedVariables false
set_option linter.unusedSimpArgs false
open Go.RowKit Go.Proofs.YtngcdkbnljoodaaGreatDoorW.PrintWords

theorem zs_snoc (k : Nat) : mkS (zs (k + 1)) = mkS (zs k) ++ { data := #[0] } := by
  rw [show ({ data := #[0] } : ByteArray) = mkS [0] from rfl, mkS_append]
  congr 1
  exact List.replicate_succ'
set_option maxHeartbeats 2000000 in
theorem Rzeros_of (n : Nat) (h : n ≤ 32) (w : World) : Calls Tryz.prog 64 #[.int .i64 (n : Int)] w fun e w' => e = .returned (.string (mkS (zs n))) ∧ w = w' := by
  go_enter Tryz.func64, Tryz.ntmps64
  go_wp2
  go_loopw [3, 4] (fun o i wr => ∃ k : Nat, k ≤ n ∧ i = .int .i64 (k : Int) ∧ o = .string (mkS (zs k)) ∧ w = wr) (fun _ i _ => n - (intOf i).toNat)
  case atStart => exact ⟨0, by omega, rfl, rfl, rfl⟩
  case round =>
    obtain ⟨k, hk, rfl, rfl, rfl⟩ := hrel
    by_cases hkn : k < n
    · obtain ⟨A, hA⟩ : ∃ A, A = mkS (zs k) := ⟨_, rfl⟩
      obtain ⟨O, hO⟩ : ∃ O : ByteArray, O = { data := #[0] } := ⟨_, rfl⟩
      have HAO : Hid (mkS (zs (k + 1)) = A ++ O) := by show _ = _; rw [hA, hO]; exact zs_snoc k
      have hAs : A.size ≤ 32 := by rw [hA, size_mkS, zs_length]; omega
      have hOs : O.size = 1 := by rw [hO]; rfl
      have r1 : ∀ W : World, (Op.stringOp .add A O).run Tryz.prog W = .ok (.string (A ++ O)) W := fun W => by rw [run_string_add_sum W A O (by omega)]
      have hO2 : ({ data := #[0] } : ByteArray) = O := hO.symm
      rw [← hA]
      have hc1 : (k : Int) < (n : Int) := by omega
      have hwr : IntKind.i64.wrap ((k : Int) + 1) = (k : Int) + 1 := IntWalk.i64_in _ (by omega)
      clear hA hO
      go_wp2
      go_roundw
      case rel => exact ⟨k + 1, by omega, rfl, by rw [HAO.out], trivial⟩
      case measure => simp [intOf]; omega
    · obtain rfl : k = n := by omega
      go_wp2
      go_ret
      exact ⟨rfl, rfl⟩
set_option maxHeartbeats 2000000 in
theorem Ris_of {w : World} {q g : Nat} {s : St} (h : StR w q g s) (pf nb : Int) :
    Calls Tryz.prog 62 #[.pointer (some ⟨q, 0, none⟩), .int .i64 pf, .int .i64 nb] w fun e w' => e = .returned (.bool (isB s.n pf nb)) ∧ w = w' := by
  obtain ⟨hwf, hne, ⟨cap, m, hq⟩, ⟨cur, hg, hc⟩⟩ := h
  obtain ⟨c0, c1, c2, c3, c4, f0, f1, f2, f3, f4⟩ := refF hq
  have hn := hwf.hi
  generalize s.n = n at *
  have HB : Hid (isB n pf nb = decide (0 ≤ pf ∧ 1 ≤ nb ∧ pf < n ∧ nb ≤ n - pf)) := rfl
  clear hwf hne hq hg hc
  by_cases h1 : 0 ≤ pf
  · by_cases h2 : 1 ≤ nb
    · by_cases h3 : pf < (n : Int)
      · have hs : IntKind.i64.wrap ((n : Int) - pf) = (n : Int) - pf := IntWalk.i64_in _ (by omega)
        by_cases h4 : nb ≤ (n : Int) - pf
        · have hd : decide (0 ≤ pf ∧ 1 ≤ nb ∧ pf < n ∧ nb ≤ n - pf) = true := decide_eq_true ⟨h1, h2, h3, h4⟩
          have HD := Lib.hid hd
          clear hd
          go_enter Tryz.func62, Tryz.ntmps62
          go_wp2
          go_ret
          exact ⟨by rw [HB.out, HD.out]; rfl, rfl⟩
        · have hd : decide (0 ≤ pf ∧ 1 ≤ nb ∧ pf < n ∧ nb ≤ n - pf) = false := decide_eq_false (fun h => h4 h.2.2.2)
          have HD := Lib.hid hd
          clear hd
          go_enter Tryz.func62, Tryz.ntmps62
          go_wp2
          go_ret
          exact ⟨by rw [HB.out, HD.out]; rfl, rfl⟩
      · have hd : decide (0 ≤ pf ∧ 1 ≤ nb ∧ pf < n ∧ nb ≤ n - pf) = false := decide_eq_false (fun h => h3 h.2.2.1)
        have HD := Lib.hid hd
        clear hd
        go_enter Tryz.func62, Tryz.ntmps62
        go_wp2
        go_ret
        exact ⟨by rw [HB.out, HD.out]; rfl, rfl⟩
    · have hd : decide (0 ≤ pf ∧ 1 ≤ nb ∧ pf < n ∧ nb ≤ n - pf) = false := decide_eq_false (fun h => h2 h.2.1)
      have HD := Lib.hid hd
      clear hd
      go_enter Tryz.func62, Tryz.ntmps62
      go_wp2
      go_ret
      exact ⟨by rw [HB.out, HD.out]; rfl, rfl⟩
  · have hd : decide (0 ≤ pf ∧ 1 ≤ nb ∧ pf < n ∧ nb ≤ n - pf) = false := decide_eq_false (fun h => h1 h.1)
    have HD := Lib.hid hd
    clear hd
    go_enter Tryz.func62, Tryz.ntmps62
    go_wp2
    go_ret
    exact ⟨by rw [HB.out, HD.out]; rfl, rfl⟩
theorem blk_partB (s : St) (pf nb i : Nat) (hi : i < nb) : blk (partB s pf nb) i = blk s.bs (pf + i) := by
  unfold blk partB
  rw [List.drop_take, List.take_take, List.drop_drop, Nat.min_eq_left (by omega), Nat.mul_add]
set_option maxHeartbeats 2000000 in
theorem Rscan_of {w : World} {q g : Nat} {s : St} (h : StR w q g s) (a c : Nat) (hh : s.Has a c) :
    Calls Tryz.prog 63 #[.pointer (some ⟨q, 0, none⟩), .int .i64 (a : Int), .int .i64 (c : Int)] w (RScanPost (mkS (partB s a c)) w) := by
  have hpl := partB_length h.wf hh
  have hn := h.wf.hi
  have hh2 := hh.2
  obtain ⟨hwf, hne, ⟨cap, m, hq⟩, ⟨cur, hg, hc⟩⟩ := h
  obtain ⟨c0, c1, c2, c3, c4, f0, f1, f2, f3, f4⟩ := refF hq
  have HC : Hid (∀ i, i < c → w.cell? ⟨g, a + i, none⟩ = some (.string (mkS (blk (partB s a c) i)))) := fun i hi => by
    rw [blk_partB s a c i hi]
    exact (blk_cell hg (a + i)).trans (hc (a + i) (by omega))
  have hac : a + c ≤ s.n := hh2
  generalize partB s a c = bs at *
  generalize s.n = n at *
  have HL := Lib.hid hpl
  clear hwf hne hq hg hc hpl hh hh2
  go_enter Tryz.func63, Tryz.ntmps63
  go_wp2
  go_loopw [8, 9] (fun o i wr => ∃ k : Nat, k ≤ c ∧ i = .int .i64 (k : Int) ∧ o = .string (mkS (bs.take (32 * k))) ∧ w = wr) (fun _ i _ => c - (intOf i).toNat)
  case atStart => exact ⟨0, Nat.zero_le _, rfl, rfl, rfl⟩
  case round =>
    obtain ⟨k, hk, rfl, rfl, rfl⟩ := hrel
    by_cases hkN : k < c
    · have hck := HC.out k hkN
      have hs := take_blk bs k
      obtain ⟨A, hA⟩ : ∃ A, A = mkS (bs.take (32 * k)) := ⟨_, rfl⟩
      obtain ⟨B, hB⟩ : ∃ B, B = mkS (blk bs k) := ⟨_, rfl⟩
      obtain ⟨K, hK⟩ : ∃ K, K = a + k := ⟨_, rfl⟩
      rw [← hK] at hck
      have HAB : Hid (mkS (bs.take (32 * (k + 1))) = A ++ B) := by show _ = _; rw [hs, hA, hB, mkS_append]
      have hAs : A.size ≤ 10000 := by rw [hA, size_mkS, List.length_take]; have := HL.out; omega
      have hBs : B.size ≤ 10000 := by rw [hB, size_mkS]; unfold blk; rw [List.length_take]; omega
      rw [← hB] at hck
      rw [← hA]
      have r1 : ∀ W : World, (Op.stringOp .add A B).run Tryz.prog W = .ok (.string (A ++ B)) W := fun W => by rw [run_string_add_sum W A B (by omega)]
      have hc1 : (k : Int) < (c : Int) := by omega
      have hwr : IntKind.i64.wrap ((k : Int) + 1) = (k : Int) + 1 := IntWalk.i64_in _ (by omega)
      have hwk : IntKind.i64.wrap ((a : Int) + (k : Int)) = (K : Int) := by rw [IntWalk.i64_in _ (by omega)]; omega
      have hk0 : (0 : Int) ≤ (K : Int) := by omega
      have hk1 : (K : Int) < (n : Int) := by omega
      clear hs hA hB hK
      go_wp2
      go_roundw
      case rel => exact ⟨k + 1, by omega, rfl, by rw [HAB.out], trivial⟩
      case measure => simp [intOf]; omega
    · obtain rfl : k = c := by omega
      have hall : bs.take (32 * k) = bs := List.take_of_length_le (by have := HL.out; omega)
      rw [hall]
      have HS := Lib.hid (RScan_of (mkS bs) (by rw [size_mkS]; have := HL.out; omega) w)
      clear hall
      go_wp2_with fail
      refine (HS.out).mono ?_
      rintro e w' ⟨v, l, t, rfl, hsc, hown, ho, hnz⟩
      have HO : Hid (RScanPost (mkS bs) w (.returned (.tuple #[v, .int .i64 ((frames l).length : Int)])) w') := ⟨v, l, t, rfl, hsc, hown, ho, hnz⟩
      obtain ⟨va, vn, vc, rfl⟩ := own_slice hown
      clear hsc hown ho
      go_wp2_with fail
      go_ret2
      exact HO.out
theorem blk_openAll (all : Bs) (nb fin i : Nat) (hl : all.length = 32 * nb) (hf : fin ≤ 32 * nb) (hi : i < nb) (hfi : fin / 32 ≤ i) : blk (openAll all fin) i = (blk all i).take (fin - 32 * i) ++ zs (32 - (fin - 32 * i)) := by
  have h1 : (all.take fin).length = fin := by rw [List.length_take]; omega
  unfold blk openAll
  rw [List.take_take, Nat.min_eq_left (by omega)]
  rcases Nat.lt_or_ge fin (32 * i) with h | h
  · rw [List.drop_append, List.drop_of_length_le (by omega), List.nil_append, h1, zs_drop, zs_take _ _ (by omega), show fin - 32 * i = 0 by omega, List.take_zero, List.nil_append]
  · rw [List.drop_append_of_le_length (by omega), List.drop_take, List.take_append, List.take_of_length_le (by rw [List.length_take]; omega), List.length_take, List.length_drop, Nat.min_eq_left (by omega), zs_take _ _ (by omega)]
theorem write_blk {s : St} (hs : s.Wf) (k : Nat) (d : Bs) (j : Nat) (hj : j ≠ k) : blk (s.write (k : Int) d).1.bs j = blk s.bs j := by
  unfold St.write
  have hl := hs.len
  by_cases hm : s.may (k : Int) = 0
  · rw [if_neg (by rw [hm]; decide)]
    have hk : k < s.n := by rcases s.may_cases (k : Int) with ⟨h1, _⟩ | ⟨h1, _⟩ | ⟨_, _, _, h4⟩ <;> omega
    by_cases hd : d.length = 32
    · rw [if_neg (by omega)]
      by_cases hf : s.fuse = 0
      · rw [if_pos hf]
        exact blk_splice_ne s.bs (d.take s.pre) s.n k j hl hk (by rw [List.length_take]; omega) hj
      · rw [if_neg hf]
        exact blk_splice_ne s.bs d s.n k j hl hk (by omega) hj
    · rw [if_pos (by omega)]
  · rw [if_pos hm]
theorem putL_skip {pf : Nat} {all was : Bs} {k i : Nat} {s : St} (h : blk all i = blk was i) : putL pf all was false (k + 1) i s = putL pf all was false k (i + 1) s := by
  rw [putL, if_pos ⟨rfl, h⟩]
theorem putL_fell {pf : Nat} {all was : Bs} {must : Bool} {k i : Nat} {s : St} (h : must = true ∨ blk all i ≠ blk was i) (h2 : (s.write ((pf + i : Nat) : Int) (blk all i)).2 ≠ 0) : putL pf all was must (k + 1) i s = s.write ((pf + i : Nat) : Int) (blk all i) := by
  rw [putL, if_neg (by rintro ⟨h3, h4⟩; rcases h with h | h; rw [h] at h3; cases h3; exact h h4), if_pos h2]
theorem putL_went {pf : Nat} {all was : Bs} {must : Bool} {k i : Nat} {s : St} (h : must = true ∨ blk all i ≠ blk was i) (h2 : (s.write ((pf + i : Nat) : Int) (blk all i)).2 = 0) : putL pf all was must (k + 1) i s = putL pf all was must k (i + 1) (s.write ((pf + i : Nat) : Int) (blk all i)).1 := by
  rw [putL, if_neg (by rintro ⟨h3, h4⟩; rcases h with h | h; rw [h] at h3; cases h3; exact h h4), if_neg (by rw [h2]; decide)]
def jrC (q : Nat) (pf nb : Int) (v : Value) (fin : Int) (over : Bool) : Array Value := #[.pointer (some ⟨q, 0, none⟩), .int .i64 pf, .int .i64 nb, v, .int .i64 fin, .bool over]
/-- Block j is a journal of the reference. -/
structure JnR (w : World) (j : Nat) (rb : Option Nat) (q pf nb : Nat) (l : List Bs) (fin : Nat) (over : Bool) : Prop where
  ex : ∃ v, w.heap[j]? = some (.cells (jrC q pf nb v fin over) 111 (0, 0)) ∧ w.ownsRow 0 9 1 v l.length (l.map strV) ∧ v.ownBlock = rb ∧ v ≠ .slice none 0 0
theorem JnR.only {S : List Nat} {w w' : World} {j q pf nb : Nat} {rb : Option Nat} {l : List Bs} {fin : Nat} {o : Bool} (h : JnR w j rb q pf nb l fin o) (ho : Only S w w') (h1 : j ∉ S) (h2 : ∀ g, rb = some g → g ∉ S) : JnR w' j rb q pf nb l fin o := by
  obtain ⟨v, a, b, c⟩ := h.ex
  exact ⟨v, ho.blk a h1, own_keep b ho (fun g hg => h2 g (c.1 ▸ hg)), c⟩
theorem StR.lt {w : World} {q g : Nat} {s : St} (h : StR w q g s) : q < w.heap.size ∧ g < w.heap.size := by
  obtain ⟨_, _, ⟨cap, m, c⟩, ⟨cur, d, e⟩⟩ := h
  exact ⟨blk_lt c, blk_lt d⟩
/-- What opening a part does. -/
def RPartPost (s : St) (q g : Nat) (pf nb : Int) (w : World) (e : Ending) (w' : World) : Prop := Only [q, g] w w' ∧
  ((isB s.n pf nb = false ∧ e = .returned (.tuple #[.pointer none, .slice none 0 0, .int .i64 1]) ∧ StR w' q g s) ∨
    (∃ (a c : Nat) (l : List Bs) (t : Bs), pf = a ∧ nb = c ∧ s.Has a c ∧ IsScan (partB s a c) l t ∧ StR w' q g (openS s a c (frames l).length).1 ∧
      (((openS s a c (frames l).length).2 ≠ 0 ∧ e = .returned (.tuple #[.pointer none, .slice none 0 0, .int .i64 (openS s a c (frames l).length).2])) ∨
        ((openS s a c (frames l).length).2 = 0 ∧ ∃ (j : Nat) (rb : Option Nat) (v : Value), w.heap.size ≤ j ∧ (∀ x, rb = some x → w.heap.size ≤ x) ∧ e = .returned (.tuple #[.pointer (some ⟨j, 0, none⟩), v, .int .i64 0]) ∧
          JnR w' j rb q a c l (frames l).length false ∧ w'.ownsRow w.heap.size 9 1 v l.length (l.map strV)))))
/-- The parts of an opening's state within its loop. -/
def RPartIn (w wr : World) (q g : Nat) (s : St) (pf nb i0 i : Nat) (all was : Bs) (v : Value) (l : List Bs) : Prop :=
  ∃ s', StR wr q g s' ∧ s'.n = s.n ∧ (∀ j, i ≤ j → j < nb → blk s'.bs (pf + j) = blk was j) ∧ putL pf all was false (nb - i0) i0 s = putL pf all was false (nb - i) i s' ∧ wr.ownsRow w.heap.size 9 1 v l.length (l.map strV) ∧ Only [q, g] w wr
set_option maxHeartbeats 4000000 in
set_option maxRecDepth 100000 in
theorem RPart_yes {w : World} {q g : Nat} {s : St} (h : StR w q g s) (a c : Nat) (hh : s.Has a c) :
    Calls Tryz.prog 38 #[.pointer (some ⟨q, 0, none⟩), .int .i64 (a : Int), .int .i64 (c : Int)] w (RPartPost s q g a c w) := by
  have his := Ris_of h (a : Int) (c : Int)
  rw [isB_has hh] at his
  have HIS := Lib.hid his
  have HSC := Lib.hid (Rscan_of h a c hh)
  have hpl := partB_length h.wf hh
  have hn := h.wf.hi
  have hh2 : a + c ≤ s.n := hh.2
  have hlt := h.lt
  have HH := Lib.hid h
  have HHAS := Lib.hid hh
  clear his h hh
  go_enter Tryz.func38, Tryz.ntmps38
  go_wp2_with fail
  refine (HIS.out).mono ?_
  rintro e _ ⟨rfl, rfl⟩
  go_wp2_with fail
  refine (HSC.out).mono ?_
  rintro e w1 ⟨v, l, t, rfl, hsc, hown, ho, hnz⟩
  rw [list_mkS] at hsc
  obtain ⟨ao, vn, cap, rfl⟩ := own_slice hown
  have hfl : (frames l).length ≤ 32 * c := by
    have := congrArg List.length hsc.eq
    rw [List.length_append] at this
    omega
  have HS1 := Lib.hid (HH.out.only ho (by simp) (by simp))
  have HSCN := Lib.hid hsc
  have HNZ := Lib.hid hnz
  clear hnz
  obtain ⟨F, hF⟩ : ∃ F, F = (frames l).length := ⟨_, rfl⟩
  rw [← hF] at hfl ⊢
  have HF := Lib.hid hF
  obtain ⟨I0, hI0⟩ : ∃ I0, I0 = F / 32 := ⟨_, rfl⟩
  have hq1 : (F : Int) / 32 = (I0 : Int) := by omega
  have hq2 : (F : Int).tdiv 32 = (I0 : Int) := by rw [hI0]; rfl
  have HI0 := Lib.hid hI0
  have hIc : I0 ≤ c := by omega
  have HI : Hid (RPartIn w w1 q g s a c I0 I0 (openAll (partB s a c) F) (partB s a c) (.slice ao vn cap) l) :=
    ⟨s, HS1.out, rfl, fun j _ hj => (blk_partB s a c j hj).symm, rfl, hown, ho.mono (by simp)⟩
  have HPL := Lib.hid hpl
  have HLT := Lib.hid hlt
  clear hsc hown ho hF hI0 hpl hlt HIS HSC
  go_wp2_with fail
  go_loopw [11] (fun i wq => ∃ k : Nat, k ≤ c ∧ I0 ≤ k ∧ i = .int .i64 (k : Int) ∧ Hid (RPartIn w wq q g s a c I0 k (openAll (partB s a c) F) (partB s a c) (.slice ao vn cap) l)) (fun i _ => c - (intOf i).toNat)
  case atStart => exact ⟨I0, hIc, Nat.le_refl _, rfl, HI⟩
  case round =>
    obtain ⟨k, hkc, hk0, rfl, HI⟩ := hrel
    by_cases hk : k < c
    · obtain ⟨s', hs', hn', hb', hp', how', hO'⟩ := HI.out
      have hwf' := hs'.wf
      have HS' := Lib.hid hs'
      obtain ⟨hwf, hne, ⟨cap', m', hq⟩, ⟨cur, hg, hc⟩⟩ := hs'
      obtain ⟨c0, c1, c2, c3, c4, f0, f1, f2, f3, f4⟩ := refF hq
      have hall : blk (openAll (partB s a c) F) k = (blk (partB s a c) k).take (F - 32 * k) ++ zs (32 - (F - 32 * k)) := blk_openAll _ c F k HPL.out hfl hk (by rw [← HI0.out]; exact hk0)
      have hbl : (blk (partB s a c) k).length = 32 := blk_length _ c k HPL.out hk
      obtain ⟨K, hK⟩ : ∃ K, K = a + k := ⟨_, rfl⟩
      have hck : wr.cell? ⟨g, K, none⟩ = some (.string (mkS (blk (partB s a c) k))) := by
        rw [hK, ← hb' k (Nat.le_refl _) hk]
        exact (blk_cell hg (a + k)).trans (hc (a + k) (by omega))
      obtain ⟨N, hN⟩ : ∃ N, N = s'.n := ⟨_, rfl⟩
      rw [← hN] at c0
      obtain ⟨I32, hI32⟩ : ∃ I32, I32 = 32 * k := ⟨_, rfl⟩
      obtain ⟨D, hD⟩ : ∃ D : Int, D = (F : Int) - (I32 : Int) := ⟨_, rfl⟩
      obtain ⟨A, hA⟩ : ∃ A, A = F - 32 * k := ⟨_, rfl⟩
      obtain ⟨Z, hZ⟩ : ∃ Z, Z = 32 - A := ⟨_, rfl⟩
      have hkI : F / 32 ≤ k := by rw [← HI0.out]; exact hk0
      have hA32 : A ≤ 32 := by omega
      have w32 : IntKind.i64.wrap (32 * (k : Int)) = (I32 : Int) := by rw [IntWalk.i64_in _ (by omega)]; omega
      have wD : IntKind.i64.wrap ((F : Int) - (I32 : Int)) = D := by rw [IntWalk.i64_in _ (by omega)]; omega
      have hmx : max D 0 = (A : Int) := by omega
      have wZ : IntKind.i64.wrap (Z : Int) = (Z : Int) := IntWalk.i64_in _ (by omega)
      have wZ2 : 32 - (A : Int) = (Z : Int) := by omega
      have wK : IntKind.i64.wrap ((a : Int) + (k : Int)) = (K : Int) := by rw [IntWalk.i64_in _ (by omega)]; omega
      have hwr : IntKind.i64.wrap ((k : Int) + 1) = (k : Int) + 1 := IntWalk.i64_in _ (by omega)
      obtain ⟨X, hX⟩ : ∃ X, X = mkS (blk (partB s a c) k) := ⟨_, rfl⟩
      have hXs : X.size = 32 := by rw [hX, size_mkS]; exact hbl
      rw [← hX] at hck
      obtain ⟨P, hP⟩ : ∃ P, P = mkS ((blk (partB s a c) k).take A) := ⟨_, rfl⟩
      obtain ⟨Q, hQ⟩ : ∃ Q, Q = mkS (zs Z) := ⟨_, rfl⟩
      obtain ⟨W, hW⟩ : ∃ W, W = mkS (blk (openAll (partB s a c) F) k) := ⟨_, rfl⟩
      have eP : X.extract 0 A = P := by rw [hX, mkS_extract, list_mkS, hP]; rfl
      have hPs : P.size ≤ 32 := by rw [hP, size_mkS, List.length_take]; omega
      have hQs : Q.size ≤ 32 := by rw [hQ, size_mkS, zs_length]; omega
      have hPQ : P ++ Q = W := by rw [hP, hQ, hW, mkS_append, hall, hZ, hA]
      have r1 : ∀ U : World, (Op.stringOp .add P Q).run Tryz.prog U = .ok (.string W) U := fun U => by rw [run_string_add_sum U P Q (by omega), hPQ]
      have hsb := same_bytes (blk (openAll (partB s a c) F) k) (blk (partB s a c) k)
      rw [← hW, ← hX] at hsb
      have HZ := Lib.hid (Rzeros_of Z (by omega))
      rw [← hQ] at HZ
      have HWL : Hid (W.data.toList = blk (openAll (partB s a c) F) k) := by show _ = _; rw [hW, list_mkS]
      have x0 : (0 : Int) ≤ (A : Int) := by omega
      have x1 : (A : Int) ≤ (X.size : Int) := by omega
      have x1b : (A : Int) ≤ 32 := by omega
      have x2 : (0 : Int) ≤ (K : Int) := by omega
      have x3 : (K : Int) < (N : Int) := by omega
      have x4 : (k : Int) < (c : Int) := by omega
      have HK := Lib.hid hK
      have HN := Lib.hid hN
      have HIN := Lib.hid (show RPartIn w wr q g s a c I0 k (openAll (partB s a c) F) (partB s a c) (.slice ao vn cap) l from HI.out)
      have hDb : -100000 ≤ D ∧ D ≤ 100000 := by omega
      have hck1 : c - k = (c - (k + 1)) + 1 := by omega
      have HCK := Lib.hid hck1
      rw [hck1] at hp'
      have HP' := Lib.hid hp'
      have HB' := Lib.hid hb'
      have HOW := Lib.hid how'
      have HO' := Lib.hid hO'
      have HN' := Lib.hid hn'
      clear hwf hne hq hg hc hall hbl hK hN hI32 hD hA hZ hkI hX hP hQ hW hPQ hck1 hp' hb' how' hO' hn' HI hwf'
      by_cases heq : blk (openAll (partB s a c) F) k = blk (partB s a c) k
      · rw [decide_eq_true heq] at hsb
        have HE := Lib.hid heq
        clear heq
        go_wp2_with fail
        go_region_held3 (fun w' => w'.cell? ⟨q, 0, none⟩ = some (.slice (some ⟨g, 0, none⟩) N cap') ∧ w'.cell? ⟨g, K, none⟩ = some (.string X))
          (go_keep)
          (first | (go_at_call 64; refine (HZ.out _).mono ?_; rintro e _ ⟨rfl, rfl⟩))
        go_wp2_with fail
        go_roundw
        case rel => exact ⟨k + 1, by omega, by omega, rfl, ⟨s', HS'.out.only ((Only.refl [] _).drew) (by simp) (by simp), HN'.out, fun j h1 h2 => HB'.out j (by omega) h2, by rw [HP'.out, putL_skip HE.out], own_keep HOW.out ((Only.refl [] _).drew) (by simp), HO'.out.tr ((Only.refl _ _).drew)⟩⟩
        case measure => simp [intOf]; omega
      · rw [decide_eq_false heq] at hsb
        have HE := Lib.hid heq
        clear heq
        go_wp2_with fail
        go_region_held3 (fun w' => w'.cell? ⟨q, 0, none⟩ = some (.slice (some ⟨g, 0, none⟩) N cap') ∧ w'.cell? ⟨g, K, none⟩ = some (.string X))
          (go_keep)
          (first | (go_at_call 64; refine (HZ.out _).mono ?_; rintro e _ ⟨rfl, rfl⟩))
        go_wp2_with fail
        refine (RWrite_of (HS'.out.only ((Only.refl [] _).drew) (by simp) (by simp)) _ _).mono ?_
        rintro e w4 ⟨rfl, hs4, ho4⟩
        obtain ⟨r, hr⟩ : ∃ r, r = s'.write (K : Int) W.data.toList := ⟨_, rfl⟩
        rw [← hr] at hs4 ⊢
        have HR : Hid (r = s'.write ((a + k : Nat) : Int) (blk (openAll (partB s a c) F) k)) := by show _ = _; rw [hr, HWL.out, HK.out]
        have HS4 := Lib.hid hs4
        have HO4 : Hid (Only [q, g] w w4) := (HO'.out.drew).tr ho4
        have HW4 := Lib.hid (own_keep HOW.out (((Only.refl [q, g] wr).drew).tr ho4) (fun x hx hm => by have := (HOW.out.lt x hx).1; have := HLT.out; simp at hm; omega))
        clear hr hs4 ho4 c0 c1 c2 c3 c4 f0 f1 f2 f3 f4 hck
        by_cases hr2 : r.2 = 0
        · have hne : (r.2 != 0) = false := by rw [hr2]; rfl
          have HR2 := Lib.hid hr2
          clear hr2
          go_wp2_with fail
          go_roundw
          case rel =>
            have hww := St.write_wf HS'.out.wf ((a + k : Nat) : Int) (blk (openAll (partB s a c) F) k)
            refine ⟨k + 1, by omega, by omega, rfl, ⟨r.1, HS4.out, by rw [HR.out, hww.2.1]; exact HN'.out, fun j h1 h2 => ?_, ?_, HW4.out, HO4.out⟩⟩
            · rw [HR.out, write_blk HS'.out.wf (a + k) _ (a + j) (by omega)]
              exact HB'.out j (by omega) h2
            · rw [HP'.out, putL_went (Or.inr HE.out) (by rw [← HR.out]; exact HR2.out), ← HR.out]
          case measure => simp [intOf]; omega
        · have hne : (r.2 != 0) = true := by rw [bne_iff_ne]; exact hr2
          have HR2 := Lib.hid hr2
          clear hr2
          go_wp2_with fail
          go_ret3
          have hop : openS s a c (frames l).length = r := by
            unfold openS
            rw [← HF.out, ← HI0.out, HP'.out, putL_fell (Or.inr HE.out) (by rw [← HR.out]; exact HR2.out), ← HR.out]
          exact ⟨HO4.out, Or.inr ⟨a, c, l, t, rfl, rfl, HHAS.out, HSCN.out, by rw [hop]; exact HS4.out, Or.inl ⟨by rw [hop]; exact HR2.out, by rw [hop]; rfl⟩⟩⟩
    · obtain ⟨s', hs', hn', hb', hp', how', hO'⟩ := HI.out
      have hkk : k = c := by omega
      have hop : openS s a c (frames l).length = (s', 0) := by
        unfold openS
        rw [← HF.out, ← HI0.out, hp', hkk, Nat.sub_self]
        rfl
      have HOP := Lib.hid hop
      have HS' := Lib.hid hs'
      have HOW := Lib.hid how'
      have HO' := Lib.hid hO'
      have x4 : ¬ (k : Int) < (c : Int) := by omega
      clear hs' hn' hb' hp' how' hO' hop hkk HI
      go_wp2_with fail
      go_ret3
      have ha : Only [] wr (wr.alloc (.cells #[.pointer (some ⟨q, 0, none⟩), .int .i64 (a : Int), .int .i64 (c : Int), .slice ao vn cap, .int .i64 (F : Int), .bool false] 111)) := (Only.refl [] wr).alloc _
      refine ⟨HO'.out.tr (ha.mono (by simp)), Or.inr ⟨a, c, l, t, rfl, rfl, HHAS.out, HSCN.out, by rw [HOP.out]; exact HS'.out.only ha (by simp) (by simp), Or.inr ⟨by rw [HOP.out], wr.heap.size, _, .slice ao vn cap, HO'.out.size, fun x hx => (HOW.out.lt x hx).1, rfl, ⟨.slice ao vn cap, ?_, own_mono (own_keep HOW.out ha (by simp)) (Nat.zero_le _), rfl, HNZ.out⟩, own_keep HOW.out ha (by simp)⟩⟩⟩
      rw [← HF.out]
      exact blk_new wr _
theorem jrF {w : World} {j q : Nat} {pf nb : Int} {v : Value} {fin : Int} {o : Bool} (h : w.heap[j]? = some (.cells (jrC q pf nb v fin o) 111 (0, 0))) :
    w.cell? ⟨j, 0, none⟩ = some (.pointer (some ⟨q, 0, none⟩)) ∧ w.cell? ⟨j, 1, none⟩ = some (.int .i64 pf) ∧ w.cell? ⟨j, 2, none⟩ = some (.int .i64 nb) ∧ w.cell? ⟨j, 3, none⟩ = some v ∧ w.cell? ⟨j, 4, none⟩ = some (.int .i64 fin) ∧ w.cell? ⟨j, 5, none⟩ = some (.bool o) ∧
    w.frozen? ⟨j, 0, none⟩ = false ∧ w.frozen? ⟨j, 1, none⟩ = false ∧ w.frozen? ⟨j, 2, none⟩ = false ∧ w.frozen? ⟨j, 3, none⟩ = false ∧ w.frozen? ⟨j, 4, none⟩ = false ∧ w.frozen? ⟨j, 5, none⟩ = false :=
  ⟨blk_cell h 0, blk_cell h 1, blk_cell h 2, blk_cell h 3, blk_cell h 4, blk_cell h 5, blk_frozen h 0, blk_frozen h 1, blk_frozen h 2, blk_frozen h 3, blk_frozen h 4, blk_frozen h 5⟩
set_option maxHeartbeats 2000000 in
theorem RRoom_of {w : World} {j q pf nb : Nat} {rb : Option Nat} {l : List Bs} {fin : Nat} {o : Bool} (h : JnR w j rb q pf nb l fin o) (hn : nb ≤ 256) (hf : fin ≤ 32 * nb) :
    Calls Tryz.prog 50 #[.pointer (some ⟨j, 0, none⟩)] w fun e w' => e = .returned (.int .i64 (32 * (nb : Int) - (fin : Int))) ∧ ∃ k, w' = w.drewN k := by
  obtain ⟨v, hj, hown, hrb, hnz⟩ := h.ex
  obtain ⟨c0, c1, c2, c3, c4, c5, f0, f1, f2, f3, f4, f5⟩ := jrF hj
  have s1 : IntKind.i64.wrap (32 * (nb : Int)) = 32 * (nb : Int) := IntWalk.i64_in _ (by omega)
  have s2 : IntKind.i64.wrap (32 * (nb : Int) - (fin : Int)) = 32 * (nb : Int) - (fin : Int) := IntWalk.i64_in _ (by omega)
  clear hj hown h hrb hnz
  go_enter Tryz.func50, Tryz.ntmps50
  go_wp2
  go_quiet (fail)
  go_wp2
  go_ret
  exact ⟨rfl, _, rfl⟩
end Go.Proofs.YtngcdkbnljoodaaGreatDoor

