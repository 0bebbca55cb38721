/- What the document says an age's record is, plain: digits without a leading zero. No conditions beyond those typed. The document's halves: begins, digits, age walk. No conditions beyond those typed. The document's halves: read walks. No conditions beyond those typed. -/
import Derived.Test.YtngcdkbnljoodaaGreatDoorMrgD
import Derived.Test.YtngcdkbnljoodaaGreatDoorRefD
import Derived.Test.YtngcdkbnljoodaaGreatDoorMrgG
namespace Go.Proofs.YtngcdkbnljoodaaGreatDoor
set_option linter.unusedVariables false
set_option linter.unusedSimpArgs false
open Go.RowKit Go.Proofs.YtngcdkbnljoodaaGreatDoorW.PrintWords

def isDig (c : UInt8) : Bool := decide (48 ≤ c.toNat) && decide (c.toNat ≤ 57)
def digV (l : Bs) : Nat := l.foldl (fun n c => 10 * n + (c.toNat - 48)) 0
theorem snoc_ind {P : Bs → Prop} (h0 : P []) (h1 : ∀ l c, P l → P (l ++ [c])) (l : Bs) : P l := by
  have h : ∀ m : Bs, P m.reverse := by
    intro m
    induction m with
    | nil => exact h0
    | cons x t ih => rw [List.reverse_cons]; exact h1 _ _ ih
  have := h l.reverse
  rw [List.reverse_reverse] at this
  exact this
theorem digV_snoc (l : Bs) (c : UInt8) : digV (l ++ [c]) = 10 * digV l + (c.toNat - 48) := by unfold digV; rw [List.foldl_append]; rfl
theorem digV_lt : ∀ (l : Bs) , (∀ c ∈ l, isDig c = true) → digV l < 10 ^ l.length := by
  refine snoc_ind ?_ ?_
  · intro _; simp [digV]
  · intro l c ih h
    have h1 := ih (fun x hx => h x (by simp [hx]))
    have h2 := h c (by simp)
    unfold isDig at h2
    simp only [Bool.and_eq_true, decide_eq_true_eq] at h2
    rw [digV_snoc, List.length_append, List.length_singleton, Nat.pow_succ]
    omega
theorem digV_pos : ∀ (l : Bs), (∀ c ∈ l, isDig c = true) → l ≠ [] → l.getD 0 0 ≠ 48 → 1 ≤ digV l := by
  refine snoc_ind ?_ ?_
  · intro _ h; exact absurd rfl h
  · intro l c ih h _ h0
    rw [digV_snoc]
    cases l with
    | nil =>
      have h2 := h c (by simp)
      unfold isDig at h2
      simp only [Bool.and_eq_true, decide_eq_true_eq] at h2
      have h3 : c ≠ 48 := h0
      have h4 : c.toNat ≠ 48 := fun e => h3 (UInt8.toNat_inj.1 (by rw [e]; rfl))
      simp [digV]
      omega
    | cons x t =>
      have := ih (fun y hy => h y (List.mem_append_left _ hy)) (by simp) (by simpa using h0)
      omega
theorem dec_digV : ∀ (l : Bs), (∀ c ∈ l, isDig c = true) → l ≠ [] → l.getD 0 0 ≠ 48 → Lib.decDigits (digV l) = l := by
  refine snoc_ind ?_ ?_
  · intro _ h; exact absurd rfl h
  · intro l c ih h _ h0
    have h2 := h c (by simp)
    unfold isDig at h2
    simp only [Bool.and_eq_true, decide_eq_true_eq] at h2
    have hc : UInt8.ofNat (48 + (c.toNat - 48)) = c := by
      rw [show 48 + (c.toNat - 48) = c.toNat by omega]
      simp
    rw [digV_snoc]
    cases l with
    | nil =>
      rw [show 10 * digV [] + (c.toNat - 48) = c.toNat - 48 by simp [digV], Lib.decDigits, dif_pos (by omega), hc]
      rfl
    | cons x t =>
      have hd : ∀ y ∈ x :: t, isDig y = true := fun y hy => h y (List.mem_append_left _ hy)
      have h3 : (x :: t).getD 0 0 ≠ 48 := by simpa using h0
      have h4 := digV_pos _ hd (by simp) h3
      rw [Lib.decDigits, dif_neg (by omega), show (10 * digV (x :: t) + (c.toNat - 48)) / 10 = digV (x :: t) by omega, show (10 * digV (x :: t) + (c.toNat - 48)) % 10 = c.toNat - 48 by omega, hc, ih hd (by simp) h3]
theorem dec_digs : ∀ (u : Nat), ∀ c ∈ Lib.decDigits u, isDig c = true := by
  intro u
  induction u using Nat.strongRecOn with
  | _ u ih =>
    have one : ∀ k, k < 10 → isDig (UInt8.ofNat (48 + k)) = true := fun k hk => by
      unfold isDig
      rw [dig_toNat hk]
      simp
      omega
    rw [Lib.decDigits]
    split
    · rename_i h
      intro c hc
      rw [List.mem_singleton.1 hc]
      exact one u h
    · rename_i h
      intro c hc
      rcases List.mem_append.1 hc with h1 | h1
      · exact ih (u / 10) (by omega) c h1
      · rw [List.mem_singleton.1 h1]
        exact one _ (by omega)
theorem dec_first : ∀ (u : Nat), 1 ≤ u → (Lib.decDigits u).getD 0 0 ≠ 48 := by
  intro u
  induction u using Nat.strongRecOn with
  | _ u ih =>
    intro hu
    rw [Lib.decDigits]
    split
    · rename_i h
      intro e
      have h1 : UInt8.ofNat (48 + u) = 48 := e
      have := congrArg UInt8.toNat h1
      rw [dig_toNat h] at this
      have : (48 : UInt8).toNat = 48 := rfl
      omega
    · rename_i h
      have h1 := ih (u / 10) (by omega) (by omega)
      obtain ⟨c, r, hc, _, _⟩ := dec_head (u / 10)
      rw [hc] at h1 ⊢
      simpa using h1
theorem digV_dec : ∀ (u : Nat), digV (Lib.decDigits u) = u := by
  intro u
  induction u using Nat.strongRecOn with
  | _ u ih =>
    rw [Lib.decDigits]
    split
    · rename_i h
      have := dig_toNat h
      unfold digV
      rw [List.foldl_cons, List.foldl_nil, this]
      omega
    · rename_i h
      rw [digV_snoc, ih (u / 10) (by omega), dig_toNat (by omega)]
      omega
theorem dec_ne (u : Nat) : Lib.decDigits u ≠ [] := by
  obtain ⟨c, r, hc, _, _⟩ := dec_head u
  rw [hc]
  simp
theorem itoa_nat (u : Nat) : Lib.itoa (u : Int) = Lib.decDigits u := by
  unfold Lib.itoa
  rw [if_neg (by omega)]
  simp
/-- The document's age of a record. -/
def refAge (r : Bs) : Int := if Lib.hasPrefix r [103, 32] = true ∧ 3 ≤ r.length ∧ r.length ≤ 20 ∧ r.getD 2 0 ≠ 48 ∧ (r.drop 2).all isDig = true then (digV (r.drop 2) : Nat) else 0
theorem refAge_eq (r : Bs) : refAge r = ageL r := by
  by_cases h : ageL r = 0
  · rw [h]
    unfold refAge
    split
    · rename_i hc
      obtain ⟨h1, h2, h3, h4, h5⟩ := hc
      exfalso
      have hd : ∀ c ∈ r.drop 2, isDig c = true := List.all_eq_true.1 h5
      have hne : r.drop 2 ≠ [] := by
        intro e
        have := congrArg List.length e
        rw [List.length_drop] at this
        simp at this
        omega
      have h0 : (r.drop 2).getD 0 0 ≠ 48 := by
        rw [List.getD_eq_getElem?_getD] at h4 ⊢
        rw [List.getElem?_drop]
        exact h4
      have hpos := digV_pos _ hd hne h0
      have hdd := dec_digV _ hd hne h0
      have hlt := digV_lt _ hd
      have hl18 : (r.drop 2).length ≤ 18 := by rw [List.length_drop]; omega
      have hlt2 : digV (r.drop 2) < 10 ^ 18 := Nat.lt_of_lt_of_le hlt (Nat.pow_le_pow_right (by decide) hl18)
      have hr : r = ageB (digV (r.drop 2) : Nat) := by
        unfold ageB
        rw [itoa_nat, hdd]
        exact has_pre h1
      rw [hr, age_ageB _ (by omega) (by omega)] at h
      omega
    · rfl
  · have hr := age_inv h
    have hrange := ageL_range r
    have hlen : (r.drop 2).length ≤ 18 := by
      unfold ageL at h
      split at h
      · split at h
        · split at h
          · rename_i hc
            exact hc.2.1
          · exact absurd rfl h
        · exact absurd rfl h
      · exact absurd rfl h
    obtain ⟨u, hu⟩ := Int.eq_ofNat_of_zero_le hrange.1
    rw [hu] at h ⊢
    have hu1 : 1 ≤ u := by omega
    have hdrop : r.drop 2 = Lib.decDigits u := by
      rw [hr, hu]
      unfold ageB
      rw [itoa_nat]
      rfl
    have hpre : Lib.hasPrefix r [103, 32] = true := by
      rw [hr]
      rfl
    have hne := dec_ne u
    have hdl : 1 ≤ (r.drop 2).length := by
      rw [hdrop]
      cases hx : Lib.decDigits u with
      | nil => exact absurd hx hne
      | cons _ _ => simp
    unfold refAge
    rw [if_pos]
    · rw [hdrop]
      have h1 := dec_digV (Lib.decDigits u) (dec_digs u) hne (dec_first u hu1)
      rw [digV_dec u]
    · refine ⟨hpre, ?_, ?_, ?_, ?_⟩
      · rw [List.length_drop] at hdl; omega
      · rw [List.length_drop] at hlen; omega
      · have h1 := dec_first u hu1
        rw [← hdrop, List.getD_eq_getElem?_getD, List.getElem?_drop] at h1
        rw [List.getD_eq_getElem?_getD]
        exact h1
      · rw [hdrop, List.all_eq_true]
        exact dec_digs u
end Go.Proofs.YtngcdkbnljoodaaGreatDoor

namespace Go.Proofs.YtngcdkbnljoodaaGreatDoor
set_option linter.unusedVariables false
set_option linter.unusedSimpArgs false
open Go.RowKit Go.Proofs.YtngcdkbnljoodaaGreatDoorW.PrintWords

theorem extr_list (s : ByteArray) (a b : Nat) : (s.extract a b).data.toList = (s.data.toList.take b).drop a := by
  rw [ByteArray.data_extract, Array.toList_extract]
  simp [List.extract_eq_take_drop, List.drop_take]
theorem pre_take (l c : Bs) (h : c.length ≤ l.length) : Lib.hasPrefix l c = decide (l.take c.length = c) := by
  show c.isPrefixOf l = _
  rw [Bool.eq_iff_iff, List.isPrefixOf_iff_prefix, decide_eq_true_eq, List.prefix_iff_eq_take]
  exact ⟨fun h => h.symm, fun h => h.symm⟩
theorem pre_short (l c : Bs) (h : l.length < c.length) : Lib.hasPrefix l c = false := by
  show c.isPrefixOf l = false
  rw [Bool.eq_false_iff]
  intro e
  have := (List.isPrefixOf_iff_prefix.1 e).length_le
  omega
theorem Rbegins_of (s c : ByteArray) (hs : s.size ≤ 140737488355328) (hc : c.size ≤ 100) (w : World) : Calls Tryz.prog 61 #[.string s, .string c] w fun e w' => e = .returned (.bool (Lib.hasPrefix s.data.toList c.data.toList)) ∧ w = w' := by
  have e1 : s.data.toList.length = s.size := rfl
  have e2 : c.data.toList.length = c.size := rfl
  by_cases h : c.size ≤ s.size
  · have hp := pre_take s.data.toList c.data.toList (by omega)
    have HP : Hid (Lib.hasPrefix s.data.toList c.data.toList = ((s.extract 0 c.size).toList == c.toList)) := by
      show _ = _
      rw [hp, ByteArray.toList_eq, ByteArray.toList_eq, extr_list, List.drop_zero, e2]
      rw [Bool.eq_iff_iff, decide_eq_true_eq, beq_iff_eq]
    have hi : (c.size : Int) ≤ (s.size : Int) := by omega
    clear hp
    go_enter Tryz.func61, Tryz.ntmps61
    go_wp2
    go_ret
    rw [HP.out]
    exact ⟨rfl, rfl⟩
  · have HP := Lib.hid (pre_short s.data.toList c.data.toList (by omega))
    have hi : ¬ (c.size : Int) ≤ (s.size : Int) := by omega
    go_enter Tryz.func61, Tryz.ntmps61
    go_wp2
    go_ret
    rw [HP.out]
    exact ⟨rfl, rfl⟩
theorem digit_at (u : Nat) (h : u < 10) : ({ data := #[48, 49, 50, 51, 52, 53, 54, 55, 56, 57] } : ByteArray).extract u (u + 1) = mkS (Lib.decDigits u) := by
  rw [Lib.decDigits, dif_pos h]
  match u, h with
  | 0, _ => rfl
  | 1, _ => rfl
  | 2, _ => rfl
  | 3, _ => rfl
  | 4, _ => rfl
  | 5, _ => rfl
  | 6, _ => rfl
  | 7, _ => rfl
  | 8, _ => rfl
  | 9, _ => rfl
theorem Rdigits_of : ∀ (u : Nat), u ≤ 9000000000000000000 → ∀ (w : World), Calls Tryz.prog 45 #[.int .i64 (u : Int)] w fun e w' => e = .returned (.string (mkS (Lib.decDigits u))) ∧ w = w' := by
  intro u
  induction u using Nat.strongRecOn with
  | _ u ih =>
    intro hu w
    by_cases h : u < 10
    · have hd := digit_at u h
      have h1 : (u : Int) < 10 := by omega
      have h0 : (0 : Int) ≤ (u : Int) := by omega
      have hw : IntKind.i64.wrap ((u : Int) + 1) = (u : Int) + 1 := IntWalk.i64_in _ (by omega)
      have HD := Lib.hid hd
      clear hd ih
      go_enter Tryz.func45, Tryz.ntmps45
      go_wp2
      go_ret
      rw [HD.out]
      exact ⟨rfl, rfl⟩
    · have h1 : ¬ (u : Int) < 10 := by omega
      have H1 := Lib.hid (ih (u / 10) (by omega) (by omega))
      have H2 := Lib.hid (ih (u % 10) (by omega) (by omega))
      obtain ⟨A, hA⟩ : ∃ A, A = u / 10 := ⟨_, rfl⟩
      obtain ⟨R, hR⟩ : ∃ R, R = u % 10 := ⟨_, rfl⟩
      rw [← hA] at H1
      rw [← hR] at H2
      have hq : (u : Int) / 10 = (A : Int) := by omega
      have hm : (u : Int).tmod 10 = (R : Int) := by rw [Int.tmod_eq_emod_of_nonneg (by omega)]; omega
      have hm2 : (u : Int) % 10 = (R : Int) := by omega
      have hwA : IntKind.i64.wrap (A : Int) = (A : Int) := IntWalk.i64_in _ (by omega)
      have hwR : IntKind.i64.wrap (R : Int) = (R : Int) := IntWalk.i64_in _ (by omega)
      have hdec : Lib.decDigits u = Lib.decDigits A ++ Lib.decDigits R := by
        conv => lhs; rw [Lib.decDigits]
        rw [dif_neg h, hA, hR]
        congr 1
        rw [Lib.decDigits, dif_pos (by omega)]
      have hla : (Lib.decDigits A).length ≤ 19 := by
        rw [Lib.decDigits_length]
        exact nDigits_le 18 A (by omega)
      have hlr : (Lib.decDigits R).length ≤ 19 := by
        rw [Lib.decDigits_length]
        exact nDigits_le 18 R (by omega)
      obtain ⟨SA, hSA⟩ : ∃ SA, SA = mkS (Lib.decDigits A) := ⟨_, rfl⟩
      obtain ⟨SR, hSR⟩ : ∃ SR, SR = mkS (Lib.decDigits R) := ⟨_, rfl⟩
      have hsum : mkS (Lib.decDigits u) = SA ++ SR := by rw [hdec, hSA, hSR, mkS_append]
      have hs1 : SA.size ≤ 19 := by rw [hSA, size_mkS]; exact hla
      have hs2 : SR.size ≤ 19 := by rw [hSR, size_mkS]; exact hlr
      have hrun : ∀ W : World, (Op.stringOp .add SA SR).run Tryz.prog W = .ok (.string (SA ++ SR)) W := fun W => run_string_add_sum W SA SR (by omega)
      rw [← hSA] at H1
      rw [← hSR] at H2
      have HSUM := Lib.hid hsum
      clear ih hA hR hdec hla hlr hSA hSR hsum h hu
      go_enter Tryz.func45, Tryz.ntmps45
      go_wp2_with fail
      refine (H1.out w).mono ?_
      rintro e w9 ⟨rfl, hw⟩
      subst w9
      go_wp2_with fail
      refine (H2.out w).mono ?_
      rintro e w9 ⟨rfl, hw⟩
      subst w9
      go_wp2_with fail
      go_ret
      rw [HSUM.out]
      exact ⟨rfl, rfl⟩
theorem take_snoc (D : Bs) (q : Nat) (h : q < D.length) : D.take (q + 1) = D.take q ++ [D.getD q 0] := by
  rw [List.take_add_one, List.getElem?_eq_getElem h, List.getD_eq_getElem?_getD, List.getElem?_eq_getElem h]
  rfl
theorem all_false {D : Bs} {q : Nat} (h : q < D.length) (hn : isDig (D.getD q 0) = false) : D.all isDig = false := by
  rw [List.all_eq_false]
  refine ⟨D.getD q 0, ?_, by rw [hn]; simp⟩
  rw [List.getD_eq_getElem?_getD, List.getElem?_eq_getElem h]
  exact List.getElem_mem h
set_option maxHeartbeats 4000000 in
set_option maxRecDepth 100000 in
theorem Rage_of (s : ByteArray) (hs : s.size ≤ 140737488355328) (w : World) : Calls Tryz.prog 60 #[.string s] w fun e w' => e = .returned (.int .i64 (refAge s.data.toList)) ∧ w = w' := by
  have hsl : s.data.toList.length = s.size := rfl
  have HB := Lib.hid (Rbegins_of s { data := #[103, 32] } hs (by decide) w)
  rw [show ({ data := #[103, 32] } : ByteArray).data.toList = [103, 32] from rfl] at HB
  cases hP : Lib.hasPrefix s.data.toList [103, 32] with
  | false =>
    rw [hP] at HB
    have HR : Hid (refAge s.data.toList = 0) := by show _ = _; unfold refAge; rw [if_neg]; rintro ⟨h, _⟩; rw [hP] at h; cases h
    clear hP hsl
    go_enter Tryz.func60, Tryz.ntmps60
    go_wp2_with fail
    refine HB.out.mono ?_
    rintro e w9 ⟨rfl, hw⟩
    subst w9
    go_wp2_with fail
    go_ret
    rw [HR.out]
    exact ⟨rfl, rfl⟩
  | true =>
    rw [hP] at HB
    have HP := Lib.hid hP
    clear hP
    by_cases h3 : (s.size : Int) < 3
    · have HR : Hid (refAge s.data.toList = 0) := by show _ = _; unfold refAge; rw [if_neg]; rintro ⟨_, h, _⟩; omega
      go_enter Tryz.func60, Tryz.ntmps60
      go_wp2_with fail
      refine HB.out.mono ?_
      rintro e w9 ⟨rfl, hw⟩
      subst w9
      go_wp2_with fail
      go_ret
      rw [HR.out]
      exact ⟨rfl, rfl⟩
    · by_cases h20 : 20 < (s.size : Int)
      · have HR : Hid (refAge s.data.toList = 0) := by show _ = _; unfold refAge; rw [if_neg]; rintro ⟨_, _, h, _⟩; omega
        go_enter Tryz.func60, Tryz.ntmps60
        go_wp2_with fail
        refine HB.out.mono ?_
        rintro e w9 ⟨rfl, hw⟩
        subst w9
        go_wp2_with fail
        go_ret
        rw [HR.out]
        exact ⟨rfl, rfl⟩
      · have h2s : 2 < s.size := by omega
        have e2 : s[2]'h2s = s.data.toList.getD 2 0 := byte_get s 2 h2s
        obtain ⟨c2, hc2⟩ : ∃ c2, c2 = s.data.toList.getD 2 0 := ⟨_, rfl⟩
        rw [← hc2] at e2
        have hi2 : (2 : Int) < (s.size : Int) := by omega
        by_cases h48 : c2.toNat = 48
        · have HR : Hid (refAge s.data.toList = 0) := by
            show _ = _
            unfold refAge
            rw [if_neg]
            rintro ⟨_, _, _, h, _⟩
            rw [← hc2] at h
            exact h (UInt8.toNat_inj.1 (by rw [h48]; rfl))
          have h48b : ((c2.toNat : Int) == 48) = true := beq_iff_eq.mpr (by omega)
          clear hc2
          go_enter Tryz.func60, Tryz.ntmps60
          go_wp2_with fail
          refine HB.out.mono ?_
          rintro e w9 ⟨rfl, hw⟩
          subst w9
          go_wp2_with fail
          go_ret
          rw [HR.out]
          exact ⟨rfl, rfl⟩
        · have H48 : Hid (s.data.toList.getD 2 0 ≠ 48) := by
            show _ ≠ _
            rw [← hc2]
            intro e
            rw [e] at h48
            exact h48 rfl
          have h48b : ((c2.toNat : Int) == 48) = false := beq_eq_false_iff_ne.mpr (by omega)
          obtain ⟨D, hD⟩ : ∃ D, D = s.data.toList.drop 2 := ⟨_, rfl⟩
          have hDl : D.length = s.size - 2 := by rw [hD, List.length_drop, hsl]
          have HRT : Hid (D.all isDig = true → refAge s.data.toList = (digV D : Nat)) := fun h => by
            unfold refAge
            rw [if_pos ⟨HP.out, by omega, by omega, H48.out, by rw [← hD]; exact h⟩, ← hD]
          have HRF : Hid (D.all isDig = false → refAge s.data.toList = 0) := fun h => by
            unfold refAge
            rw [if_neg]
            rintro ⟨_, _, _, _, h'⟩
            rw [← hD, h] at h'
            cases h'
          have HBY : Hid (∀ k (h : k < s.size), 2 ≤ k → s[k]'h = D.getD (k - 2) 0) := fun k h hk => by
            rw [byte_get s k h, hD, List.getD_eq_getElem?_getD, List.getD_eq_getElem?_getD, List.getElem?_drop, show 2 + (k - 2) = k by omega]
          clear hc2 hD
          go_enter Tryz.func60, Tryz.ntmps60
          go_wp2_with fail
          refine HB.out.mono ?_
          rintro e w9 ⟨rfl, hw⟩
          subst w9
          go_wp2_with fail
          go_loopw [3, 4] (fun n i wr => ∃ k : Nat, 2 ≤ k ∧ k ≤ s.size ∧ i = .int .i64 (k : Int) ∧ n = .int .i64 (digV (D.take (k - 2)) : Nat) ∧ Hid ((D.take (k - 2)).all isDig = true) ∧ wr = w) (fun _ i _ => s.size - (intOf i).toNat)
          case atStart => exact ⟨2, by omega, by omega, rfl, rfl, rfl, rfl⟩
          case round =>
            obtain ⟨k, hk2, hk, rfl, rfl, HAL, rfl⟩ := hrel
            by_cases hks : k < s.size
            · have e0 := HBY.out k hks hk2
              obtain ⟨c, hcc⟩ : ∃ c, c = D.getD (k - 2) 0 := ⟨_, rfl⟩
              rw [← hcc] at e0
              obtain ⟨V, hV⟩ : ∃ V, V = digV (D.take (k - 2)) := ⟨_, rfl⟩
              have hVlt : V < 100000000000000000 := by
                have h1 := digV_lt (D.take (k - 2)) (List.all_eq_true.1 HAL.out)
                have h2 : (D.take (k - 2)).length ≤ 17 := by rw [List.length_take]; omega
                have h3 : (10 : Nat) ^ (D.take (k - 2)).length ≤ 10 ^ 17 := Nat.pow_le_pow_right (by decide) h2
                rw [hV]
                omega
              have hts : D.take (k + 1 - 2) = D.take (k - 2) ++ [c] := by
                rw [show k + 1 - 2 = (k - 2) + 1 by omega, take_snoc D (k - 2) (by omega), hcc]
              have hcb := c.toNat_lt
              have hc0 : (0 : Int) ≤ (k : Int) := by omega
              have hc1 : ((k : Int) < (s.size : Int)) := by omega
              have hwr : IntKind.i64.wrap ((k : Int) + 1) = (k : Int) + 1 := IntWalk.i64_in _ (by omega)
              by_cases hd : isDig c = true
              · have hdd := hd
                unfold isDig at hdd
                simp only [Bool.and_eq_true, decide_eq_true_eq] at hdd
                have hlo : ¬ ((c.toNat : Int) < 48) := by omega
                have hhi : ¬ (57 < (c.toNat : Int)) := by omega
                have HWV : Hid (10 * (V : Int) + ((c.toNat : Int) - 48) = ((10 * V + (c.toNat - 48) : Nat) : Int)) := by show _ = _; omega
                have HV2 : Hid (digV (D.take (k + 1 - 2)) = 10 * V + (c.toNat - 48)) := by show _ = _; rw [hts, digV_snoc, hV]
                have HA2 : Hid ((D.take (k + 1 - 2)).all isDig = true) := by
                  show _ = _
                  rw [hts, List.all_append, HAL.out]
                  simp [hd]
                rw [← hV]
                clear hV hts hd hdd hcc
                go_wp2_with fail
                go_roundw
                case rel => exact ⟨k + 1, by omega, by omega, rfl, by rw [HWV.out, HV2.out], HA2, trivial⟩
                case measure => simp [intOf]; omega
              · have hdf : isDig c = false := by cases e : isDig c; rfl; exact absurd e hd
                have HAF := Lib.hid (HRF.out (all_false (q := k - 2) (by omega) (by rw [← hcc]; exact hdf)))
                unfold isDig at hdf
                rw [← hV]
                clear hV hts hcc hd
                by_cases hlo : (c.toNat : Int) < 48
                · clear hdf
                  go_wp2_with fail
                  go_ret
                  rw [HAF.out]
                  exact ⟨rfl, rfl⟩
                · have hhi : 57 < (c.toNat : Int) := by
                    rw [Bool.and_eq_false_iff, decide_eq_false_iff_not, decide_eq_false_iff_not] at hdf
                    omega
                  clear hdf
                  go_wp2_with fail
                  go_ret
                  rw [HAF.out]
                  exact ⟨rfl, rfl⟩
            · have hkk : k = s.size := by omega
              subst hkk
              have HF : Hid (refAge s.data.toList = (digV (D.take (s.size - 2)) : Nat)) := by
                show _ = _
                have h1 := HAL.out
                have h2 : D.take (s.size - 2) = D := by rw [← hDl, List.take_length]
                rw [h2] at h1 ⊢
                exact HRT.out h1
              go_wp2_with fail
              go_ret
              rw [HF.out]
              exact ⟨rfl, rfl⟩
end Go.Proofs.YtngcdkbnljoodaaGreatDoor

namespace Go.Proofs.YtngcdkbnljoodaaGreatDoor
set_option linter.unusedVariables false
set_option linter.unusedSimpArgs false
open Go.RowKit Go.Proofs.YtngcdkbnljoodaaGreatDoorW.PrintWords

def RreadPost (l : List Bs) (w : World) (e : Ending) (w' : World) : Prop :=
  ∃ vs vt, e = .returned (.tuple #[.int .i64 (readL l).1, vs, vt]) ∧ Rows2 w.heap.size w' vs vt (readL l).2.1 (readL l).2.2 ∧ Only [] w w'
/-- Within read's loops. -/
structure R2In (w wr : World) (l : List Bs) (k : Nat) (is : Bool) (vs vt : Value) (sn tl : List Bs) : Prop where
  rows : Rows2 w.heap.size wr vs vt sn tl
  on : Only [] w wr
  run : bodyL (l.drop 1) false [] [] = bodyL (l.drop k) is sn tl
  ls : sn.length ≤ k
  lt : tl.length ≤ k
theorem R2In.keep {w wr w' : World} {l : List Bs} {k : Nat} {is : Bool} {vs vt : Value} {sn tl : List Bs} (h : R2In w wr l k is vs vt sn tl) (ho : Only [] wr w') : R2In w w' l k is vs vt sn tl := ⟨h.rows.keep ho, h.on.tr ho, h.run, h.ls, h.lt⟩
theorem R2In.growS {w wr w' : World} {l : List Bs} {k : Nat} {vs vt v' : Value} {sn tl : List Bs} {y : Bs} {o : Obj} (h : R2In w wr l k false vs vt sn tl) (hown : w'.ownsRow w.heap.size 9 1 v' (sn.length + 1) (sn.map strV ++ [strV y])) (hg : (wr.alloc o).grownBy w' vs.ownBlock)
    (hat : v'.ownBlock = vs.ownBlock ∨ v'.ownBlock = some (wr.heap.size + 1)) (hrun : bodyL (l.drop 1) false [] [] = bodyL (l.drop (k + 1)) false (sn ++ [y]) tl) : R2In w w' l (k + 1) false v' vt (sn ++ [y]) tl := by
  have ho : Only vs.ownBlock.toList wr w' := ((Only.refl _ wr).alloc o).grown hg (fun x hx => Or.inl (by rw [hx]; simp))
  have hm : ∀ x, x ∈ vs.ownBlock.toList → vs.ownBlock = some x := fun x hx => by simpa using hx
  have hlt := h.rows.t.lt
  refine ⟨⟨by rw [List.length_append, List.map_append]; exact hown, own_keep h.rows.t ho (fun x hx hx2 => h.rows.ne x (hm x hx2) hx), fun x hx e => ?_⟩, h.on.trans ho (fun x hx => Or.inr (h.rows.s.lt x (hm x hx)).1), hrun, by rw [List.length_append]; have := h.ls; simp; omega, by have := h.lt; omega⟩
  rcases hat with e2 | e2
  · exact h.rows.ne x (e2.symm.trans hx) e
  · have h2 := e2.symm.trans hx
    cases h2
    have := (hlt _ e).2
    omega
theorem R2In.growT {w wr w' : World} {l : List Bs} {k : Nat} {vs vt v' : Value} {sn tl : List Bs} {y : Bs} {o : Obj} (h : R2In w wr l k true vs vt sn tl) (hown : w'.ownsRow w.heap.size 9 1 v' (tl.length + 1) (tl.map strV ++ [strV y])) (hg : (wr.alloc o).grownBy w' vt.ownBlock)
    (hat : v'.ownBlock = vt.ownBlock ∨ v'.ownBlock = some (wr.heap.size + 1)) (hrun : bodyL (l.drop 1) false [] [] = bodyL (l.drop (k + 1)) true sn (tl ++ [y])) : R2In w w' l (k + 1) true vs v' sn (tl ++ [y]) := by
  have ho : Only vt.ownBlock.toList wr w' := ((Only.refl _ wr).alloc o).grown hg (fun x hx => Or.inl (by rw [hx]; simp))
  have hm : ∀ x, x ∈ vt.ownBlock.toList → vt.ownBlock = some x := fun x hx => by simpa using hx
  have hlt := h.rows.s.lt
  refine ⟨⟨own_keep h.rows.s ho (fun x hx hx2 => h.rows.ne x hx (hm x hx2)), by rw [List.length_append, List.map_append]; exact hown, fun x hx e => ?_⟩, h.on.trans ho (fun x hx => Or.inr (h.rows.t.lt x (hm x hx)).1), hrun, by have := h.ls; omega, by rw [List.length_append]; have := h.lt; simp; omega⟩
  rcases hat with e2 | e2
  · exact h.rows.ne x hx (e2.symm.trans e)
  · have h2 := e2.symm.trans e
    cases h2
    have := (hlt _ hx).2
    omega
theorem drop_at {l : List Bs} {k : Nat} {x : Bs} (h : l[k]? = some x) : l.drop k = x :: l.drop (k + 1) := by
  obtain ⟨h1, h2⟩ := List.getElem?_eq_some_iff.1 h
  rw [List.drop_eq_getElem_cons h1, h2]
theorem readL_none {r : Bs} {t : List Bs} (h : bodyL t false [] [] = none) : readL (r :: t) = (0, [], []) := by
  rw [readL_cons, h]
  split <;> rfl
theorem readL_some {r : Bs} {t sn tl : List Bs} (h0 : ageL r ≠ 0) (h : bodyL t false [] [] = some (sn, tl)) : readL (r :: t) = (ageL r, sn, tl) := by
  rw [readL_cons, h, if_neg h0]
set_option maxHeartbeats 4000000 in
set_option maxRecDepth 100000 in
theorem Rread_some {w : World} {g cap : Nat} {r : Bs} {t : List Bs} (hc : ∀ j x, (r :: t)[j]? = some x → w.cell? ⟨g, j, none⟩ = some (strV x)) (hl : (r :: t).length ≤ 100000) (hx : ∀ x ∈ r :: t, x.length ≤ 100000) :
    Calls Tryz.prog 35 #[.slice (some ⟨g, 0, none⟩) (r :: t).length cap] w (RreadPost (r :: t) w) := by
  obtain ⟨N, hN⟩ : ∃ N, N = (r :: t).length := ⟨_, rfl⟩
  have hr0 := hc 0 r rfl
  unfold strV at hr0
  have hrx := hx r (by simp)
  have hN1 : 1 ≤ N := by rw [hN]; simp
  rw [← hN] at hl ⊢
  obtain ⟨l, hll⟩ : ∃ l, l = r :: t := ⟨_, rfl⟩
  have HLL := Lib.hid hll
  rw [← hll] at hc hx hN
  have HN := Lib.hid hN
  have HC := Lib.hid hc
  have HX := Lib.hid hx
  obtain ⟨RB, hRB⟩ : ∃ RB, RB = mkS r := ⟨_, rfl⟩
  rw [← hRB] at hr0
  have HAG : Hid (∀ W, Calls Tryz.prog 60 #[.string RB] W fun e w' => e = .returned (.int .i64 (ageL r)) ∧ W = w') := fun W => by
    have := Rage_of RB (by rw [hRB, size_mkS]; omega) W
    rw [hRB, list_mkS, refAge_eq, ← hRB] at this
    exact this
  have hNi : ¬ ((N : Int) = 0) := by omega
  have hN0 : ((N : Int) == 0) = false := beq_eq_false_iff_ne.mpr hNi
  have hN2 : (0 : Int) < (N : Int) := by omega
  clear hN hc hx hRB hrx hll
  go_enter Tryz.func35, Tryz.ntmps35
  go_wp2_with fail
  refine (HAG.out w).mono ?_
  rintro e w9 ⟨rfl, hw⟩
  subst w9
  by_cases hA : ageL r = 0
  · have hAb : (ageL r == 0) = true := beq_iff_eq.mpr hA
    have HR : Hid (readL (r :: t) = (0, [], [])) := by show _ = _; rw [readL_cons, if_pos hA]
    go_wp2_with fail
    go_ret3
    rw [RreadPost, HR.out]
    exact ⟨_, _, rfl, Rows2.nil _ _, Only.refl _ _⟩
  · have hAb : (ageL r == 0) = false := beq_eq_false_iff_ne.mpr hA
    have HA := Lib.hid hA
    clear hA
    have HI : Hid (R2In w (w.alloc (.cells #[] 9)) l 1 false (.slice (some ⟨w.heap.size, 0, none⟩) 0 0) (.slice none 0 0) [] []) := ⟨⟨own_empty w _ _ (Nat.le_refl _), World.ownsRow_nil _ _ _ _, fun x _ h => by simp [Value.ownBlock] at h⟩, (Only.refl _ _).alloc _, rfl, Nat.zero_le _, Nat.zero_le _⟩
    go_wp2_with fail
    go_loopw [5, 6] (fun av sv wq => ∃ (k : Nat) (sn : List Bs), av = .int .i64 (k : Int) ∧ 1 ≤ k ∧ k ≤ N ∧ Hid (R2In w wq l k false sv (.slice none 0 0) sn [])) (fun av _ _ => N - (intOf av).toNat)
    case atStart => exact ⟨1, [], rfl, Nat.le_refl _, hN1, HI⟩
    case round =>
      clear HI
      obtain ⟨k, sn, rfl, hk1, hk, HI⟩ := hrel
      by_cases hkN : k < N
      · obtain ⟨x, hx⟩ : ∃ x, l[k]? = some x := ⟨_, List.getElem?_eq_getElem (by have := HN.out; omega)⟩
        have hcx := cell_stay (HC.out k x hx) HI.out.on
        unfold strV at hcx
        have hxl := HX.out x (List.mem_of_getElem? hx)
        obtain ⟨XB, hXB⟩ : ∃ XB, XB = mkS x := ⟨_, rfl⟩
        have hXs : XB.size = x.length := by rw [hXB, size_mkS]
        have hXl : XB.data.toList = x := by rw [hXB, list_mkS]
        rw [← hXB] at hcx
        have HPS := Lib.hid (fun W => Rbegins_of XB { data := #[115, 32] } (by omega) (by decide) W)
        rw [hXl, show ({ data := #[115, 32] } : ByteArray).data.toList = [115, 32] from rfl] at HPS
        have hlv : (XB.toList == [108, 105, 118, 101]) = decide (x = liveB) := by
          rw [ByteArray.toList_eq, hXl, Bool.eq_iff_iff, beq_iff_eq, decide_eq_true_iff]
          exact Iff.rfl
        have hdX : XB.extract 2 XB.size = mkS (x.drop 2) := by rw [mkS_extract, hXl, List.take_of_length_le (by rw [List.length_drop]; omega)]
        have h2s : Lib.hasPrefix x [115, 32] = true → 2 ≤ x.length := fun h => (List.isPrefixOf_iff_prefix.1 h).length_le
        have hdr := drop_at hx
        have hrun := HI.out.run
        rw [hdr, bodyL] at hrun
        have HRUN := Lib.hid hrun
        have hc0 : (0 : Int) ≤ (k : Int) := by omega
        have hc1 : (k : Int) < (N : Int) := by omega
        have hwr : IntKind.i64.wrap ((k : Int) + 1) = (k : Int) + 1 := IntWalk.i64_in _ (by omega)
        clear hx hdr hXB hXl hrun
        cases hps : Lib.hasPrefix x [115, 32] with
        | true =>
          have hnl : x ≠ liveB := by intro e; rw [e] at hps; exact absurd hps (by decide)
          rw [hps] at HPS
          obtain ⟨YB, hYB⟩ : ∃ YB, YB = mkS (x.drop 2) := ⟨_, rfl⟩
          rw [← hYB] at hdX
          have hx2 : (2 : Int) ≤ (XB.size : Int) := by have := h2s hps; omega
          have HRUN2 : Hid (bodyL (l.drop 1) false [] [] = bodyL (l.drop (k + 1)) false (sn ++ [x.drop 2]) []) := by
            show _ = _
            rw [HRUN.out, if_neg (by rintro ⟨_, h⟩; exact hnl h), if_pos ⟨rfl, hps⟩]
          have HYB : Hid (.string YB = strV (x.drop 2)) := by show _ = _; rw [hYB]; rfl
          have HROW := Lib.hid HI.out.rows.s
          have HLS : Hid (sn.length ≤ k ∧ 0 ≤ k) := ⟨HI.out.ls, Nat.zero_le _⟩
          obtain ⟨i0, hi, hz0, hz1, hz2⟩ := info_parts string_info
          clear hps hYB hXs HRUN hlv
          go_wp2_with fail
          refine (HPS.out wr).mono ?_
          rintro e w9 ⟨rfl, hw9⟩
          subst w9
          go_wp2_with (at_builtin; refine wpList_append_own_at _ rfl _ _ 37 rfl w.heap.size 9 i0 (.string ByteArray.empty) 1 16 Tryz.underlying37 hi hz0 hz1 hz2 rfl (by decide) _ _ _ rfl (HROW.out.alloc _) ⟨wr.heap.size, 0, none⟩ 1 1 [.string YB] rfl rfl ?c1 ?c2 ?c3 ?c4 ?c5 ?_)
          case c1 => exact news_one wr _ _
          case c2 => intro u hu; simp at hu; subst hu; rfl
          case c3 => have := HLS.out; unfold maxLen; omega
          case c4 => have := HLS.out; omega
          case c5 => have := HI.out.on.size; simp; omega
          intro v' w6 hown6 hgrow6 hnil6 hat6
          rw [HYB.out] at hown6
          have HI6 := Lib.hid (HI.out.growS hown6 hgrow6 (by rcases hat6 with h | h; exact Or.inl h; right; simpa using h) HRUN2.out)
          clear hown6 hgrow6 hnil6 hat6 hnl
          go_wp2_with fail
          go_roundw
          case rel => exact ⟨k + 1, _, rfl, by omega, by omega, HI6⟩
          case measure => simp [intOf]; omega
        | false =>
          rw [hps] at HPS
          by_cases hlive : x = liveB
          · rw [decide_eq_true hlive] at hlv
            have HRUN2 : Hid (bodyL (l.drop 1) false [] [] = bodyL (l.drop (k + 1)) true sn []) := by
              show _ = _
              rw [HRUN.out, if_pos ⟨rfl, hlive⟩]
            have hkg : ¬ ((N : Int) ≤ (k : Int)) := by omega
            have hkd : decide (N ≤ k) = false := decide_eq_false (by omega)
            clear hps hlive HRUN
            go_wp2_with fail
            refine (HPS.out wr).mono ?_
            rintro e w9 ⟨rfl, hw9⟩
            subst w9
            go_wp2_with fail
            have HI2 : Hid (R2In w (wr.alloc (.cells #[] 9)) l (k + 1) true u6 (.slice (some ⟨wr.heap.size, 0, none⟩) 0 0) sn []) := by
              have h := HI.out
              have hs := h.on.size
              refine ⟨⟨h.rows.s.alloc _, own_empty wr _ _ hs, fun x hx e => ?_⟩, h.on.alloc _, HRUN2.out, by have := h.ls; omega, Nat.zero_le _⟩
              have e2 : wr.heap.size = x := by simpa [Value.ownBlock] using e
              have := (h.rows.s.lt _ hx).2
              omega
            have hw1 : w.heap.size ≤ wr.heap.size := HI.out.on.size
            have HSN := Lib.hid (Eq.refl wr)
            go_loopw [5, 7] (fun av tv wq => ∃ (k : Nat) (tl : List Bs), av = .int .i64 (k : Int) ∧ 1 ≤ k ∧ k ≤ N ∧ Hid (R2In w wq l k true u6 tv sn tl)) (fun av _ _ => N - (intOf av).toNat)
            case atStart => exact ⟨k + 1, [], rfl, by omega, by omega, HI2⟩
            case round =>
              clear HI HI2 HSN
              obtain ⟨k, tl, rfl, hk1, hk, HI⟩ := hrel
              by_cases hkN : k < N
              · obtain ⟨x, hx⟩ : ∃ x, l[k]? = some x := ⟨_, List.getElem?_eq_getElem (by have := HN.out; omega)⟩
                have hcx := cell_stay (HC.out k x hx) HI.out.on
                unfold strV at hcx
                have hxl := HX.out x (List.mem_of_getElem? hx)
                obtain ⟨XB, hXB⟩ : ∃ XB, XB = mkS x := ⟨_, rfl⟩
                have hXs : XB.size = x.length := by rw [hXB, size_mkS]
                have hXl : XB.data.toList = x := by rw [hXB, list_mkS]
                rw [← hXB] at hcx
                have HPS := Lib.hid (fun W => Rbegins_of XB { data := #[116, 32] } (by omega) (by decide) W)
                rw [hXl, show ({ data := #[116, 32] } : ByteArray).data.toList = [116, 32] from rfl] at HPS
                have hdX : XB.extract 2 XB.size = mkS (x.drop 2) := by rw [mkS_extract, hXl, List.take_of_length_le (by rw [List.length_drop]; omega)]
                have h2s : Lib.hasPrefix x [116, 32] = true → 2 ≤ x.length := fun h => (List.isPrefixOf_iff_prefix.1 h).length_le
                have hdr := drop_at hx
                have hrun := HI.out.run
                rw [hdr, bodyL] at hrun
                have HRUN := Lib.hid hrun
                have hc0 : (0 : Int) ≤ (k : Int) := by omega
                have hc1 : (k : Int) < (N : Int) := by omega
                have hwr : IntKind.i64.wrap ((k : Int) + 1) = (k : Int) + 1 := IntWalk.i64_in _ (by omega)
                clear hx hdr hXB hXl hrun
                cases hps : Lib.hasPrefix x [116, 32] with
                | true =>
                  rw [hps] at HPS
                  obtain ⟨YB, hYB⟩ : ∃ YB, YB = mkS (x.drop 2) := ⟨_, rfl⟩
                  rw [← hYB] at hdX
                  have hx2 : (2 : Int) ≤ (XB.size : Int) := by have := h2s hps; omega
                  have HRUN2 : Hid (bodyL (l.drop 1) false [] [] = bodyL (l.drop (k + 1)) true sn (tl ++ [x.drop 2])) := by
                    show _ = _
                    rw [HRUN.out, if_neg (by rintro ⟨h, _⟩; cases h), if_neg (by rintro ⟨h, _⟩; cases h), if_pos ⟨rfl, hps⟩]
                  have HYB : Hid (.string YB = strV (x.drop 2)) := by show _ = _; rw [hYB]; rfl
                  have HROW := Lib.hid HI.out.rows.t
                  have HLS : Hid (tl.length ≤ k) := HI.out.lt
                  obtain ⟨i0, hi, hz0, hz1, hz2⟩ := info_parts string_info
                  clear hps hYB hXs HRUN
                  go_wp2_with fail
                  refine (HPS.out wr).mono ?_
                  rintro e w9 ⟨rfl, hw9⟩
                  subst w9
                  go_wp2_with (at_builtin; refine wpList_append_own_at _ rfl _ _ 37 rfl w.heap.size 9 i0 (.string ByteArray.empty) 1 16 Tryz.underlying37 hi hz0 hz1 hz2 rfl (by decide) _ _ _ rfl (HROW.out.alloc _) ⟨wr.heap.size, 0, none⟩ 1 1 [.string YB] rfl rfl ?d1 ?d2 ?d3 ?d4 ?d5 ?_)
                  case d1 => exact news_one wr _ _
                  case d2 => intro u hu; simp at hu; subst hu; rfl
                  case d3 => have := HLS.out; unfold maxLen; omega
                  case d4 => have := HLS.out; omega
                  case d5 => have := HI.out.on.size; simp; omega
                  intro v' w6 hown6 hgrow6 hnil6 hat6
                  rw [HYB.out] at hown6
                  have HI6 := Lib.hid (HI.out.growT hown6 hgrow6 (by rcases hat6 with h | h; exact Or.inl h; right; simpa using h) HRUN2.out)
                  clear hown6 hgrow6 hnil6 hat6
                  go_wp2_with fail
                  go_roundw
                  case rel => exact ⟨k + 1, _, rfl, by omega, by omega, HI6⟩
                  case measure => simp [intOf]; omega
                | false =>
                  rw [hps] at HPS
                  have HRZ : Hid (readL (r :: t) = (0, [], [])) := by
                    show _ = _
                    refine readL_none ?_
                    have h := HRUN.out
                    rw [HLL.out, List.drop_one, List.tail_cons] at h
                    rw [h, if_neg (by rintro ⟨h, _⟩; cases h), if_neg (by rintro ⟨h, _⟩; cases h), if_neg (by rintro ⟨_, h⟩; rw [hps] at h; cases h)]
                  clear hps HRUN
                  go_wp2_with fail
                  refine (HPS.out wr).mono ?_
                  rintro e w9 ⟨rfl, hw9⟩
                  subst w9
                  go_wp2_with fail
                  go_ret3
                  rw [RreadPost, HRZ.out]
                  exact ⟨_, _, rfl, Rows2.nil _ _, HI.out.on⟩
              · have hkk : N = k := by omega
                subst hkk
                have HRS : Hid (readL (r :: t) = (ageL r, sn, tl)) := by
                  show _ = _
                  refine readL_some HA.out ?_
                  have h := HI.out.run
                  rw [HLL.out, List.drop_one, List.tail_cons, ← HLL.out, HN.out, List.drop_length] at h
                  rw [h]
                  rfl
                have hr0w : wr.cell? ⟨g, 0, none⟩ = some (.string RB) := cell_stay hr0 HI.out.on
                go_wp2_with fail
                refine (HAG.out wr).mono ?_
                rintro e w9 ⟨rfl, hw9⟩
                subst w9
                go_wp2_with fail
                go_ret3
                rw [RreadPost, HRS.out]
                exact ⟨_, _, rfl, HI.out.rows, HI.out.on⟩
          · rw [decide_eq_false hlive] at hlv
            have HRZ : Hid (readL (r :: t) = (0, [], [])) := by
              show _ = _
              refine readL_none ?_
              have h := HRUN.out
              rw [HLL.out, List.drop_one, List.tail_cons] at h
              rw [h, if_neg (by rintro ⟨_, h⟩; exact hlive h), if_neg (by rintro ⟨_, h⟩; rw [hps] at h; cases h), if_neg (by rintro ⟨h, _⟩; cases h)]
            have hkg : ¬ ((N : Int) ≤ (k : Int)) := by omega
            have hkd : decide (N ≤ k) = false := decide_eq_false (by omega)
            clear hps hlive HRUN
            go_wp2_with fail
            refine (HPS.out wr).mono ?_
            rintro e w9 ⟨rfl, hw9⟩
            subst w9
            go_wp2_with fail
            go_ret3
            rw [RreadPost, HRZ.out]
            exact ⟨_, _, rfl, Rows2.nil _ _, HI.out.on⟩
      · have hkk : N = k := by omega
        subst hkk
        have HRZ : Hid (readL (r :: t) = (0, [], [])) := by
          show _ = _
          refine readL_none ?_
          have h := HI.out.run
          rw [HLL.out, List.drop_one, List.tail_cons, ← HLL.out, HN.out, List.drop_length] at h
          rw [h]
          rfl
        go_wp2_with fail
        go_ret3
        rw [RreadPost, HRZ.out]
        exact ⟨_, _, rfl, Rows2.nil _ _, HI.out.on⟩
/-- Read, of a row that is owned. -/
theorem Rread_of {w : World} {base : Nat} {v : Value} {l : List Bs} (h : w.ownsRow base 9 1 v l.length (l.map strV)) (hl : l.length ≤ 100000) (hx : ∀ x ∈ l, x.length ≤ 100000) :
    Calls Tryz.prog 35 #[v] w (RreadPost l w) := by
  have hcells := own_cells h
  cases l with
  | nil =>
    obtain ⟨a, n, c, rfl⟩ := own_slice h
    obtain rfl : n = 0 := by
      rcases hcells with ⟨h3, _⟩ | ⟨g2, cap2, h3, _, _⟩
      · injection h3
      · injection h3
    go_enter Tryz.func35, Tryz.ntmps35
    go_wp2
    go_ret3
    exact ⟨_, _, rfl, Rows2.nil _ _, Only.refl _ _⟩
  | cons r t =>
    rcases hcells with ⟨_, h3⟩ | ⟨g2, cap2, h3, _, hcl⟩
    · cases h3
    · rw [h3]
      exact Rread_some hcl hl hx
end Go.Proofs.YtngcdkbnljoodaaGreatDoor

