/- The halves' smaller functions walk: the age that a record tells. No conditions beyond those typed. -/
import Derived.Test.YtngcdkbnljoodaaGreatDoorMrgB
import Derived.Test.YtngcdkbnljoodaaGreatDoorShelf
import Derived.Lib.AppendIntMem
namespace Go.Proofs.YtngcdkbnljoodaaGreatDoor
set_option linter.unusedVariables false
set_option linter.unusedSimpArgs false
open Go.RowKit Go.Proofs.YtngcdkbnljoodaaGreatDoorW.PrintWords

/-- What strconv reads: its table, and its two errors. -/
structure Vars (w : World) : Prop where
  tab : Lib.TabIs Tryz.prog w "internal/strconv.uint64pow10" .u64 Lib.pow10Tab
  syn : ∃ tp p, w.var? Tryz.prog "strconv.ErrSyntax" = some #[.iface tp p]
  rng : ∃ tp p, w.var? Tryz.prog "strconv.ErrRange" = some #[.iface tp p]
theorem var_only {w w' : World} {n : String} {cs : Array Value} (h : w.var? Tryz.prog n = some cs) (ho : Only [] w w') : w'.var? Tryz.prog n = some cs := by
  unfold World.var? at h ⊢
  cases hg : Tryz.prog.globalNamed n with
  | none => rw [hg] at h; cases h
  | some g =>
    rw [hg] at h
    simp only [Option.bind_some] at h ⊢
    have hlt : g < w.heap.size := by
      rcases Nat.lt_or_ge g w.heap.size with h' | h'
      · exact h'
      · rw [Array.getElem?_eq_none h'] at h; cases h
    rw [ho.block g hlt (by simp)]
    exact h
theorem Vars.only {w w' : World} (h : Vars w) (ho : Only [] w w') : Vars w' := by
  obtain ⟨tp, p, h1⟩ := h.syn
  obtain ⟨tq, q, h2⟩ := h.rng
  refine ⟨?_, ⟨tp, p, var_only h1 ho⟩, ⟨tq, q, var_only h2 ho⟩⟩
  have ht := h.tab
  unfold Lib.TabIs at ht ⊢
  exact var_only ht ho
theorem only_bytes (w : World) (e : TypeId) (s : ByteArray) : Only [] w (Lib.bytesWorld w e s) :=
  ⟨rfl, rfl, rfl, by rw [Lib.bytesWorld_size]; omega, fun k hk _ => Lib.bytesWorld_at_old w e s k hk⟩
/-- What strconv.Atoi tells of any text: a number, and is it an error. -/
theorem atoi_any (s : ByteArray) (hs : s.size ≤ 100000) (w : World) (hv : Vars w) :
    Calls Tryz.prog 71 #[.string s] w fun e w' => Only [] w w' ∧
      ((∃ v, Lib.atoiAll s.data.toList = .ok v ∧ e = .returned (.tuple #[.int .i64 v, .nilIface])) ∨ ((∀ v, Lib.atoiAll s.data.toList ≠ .ok v) ∧ ∃ (v : Int) (N : Nat), e = .returned (.tuple #[.int .i64 v, .iface 148 (.pointer (some ⟨N, 0, none⟩))]))) := by
  rcases h : Lib.atoiAll s.data.toList with v | ⟨⟩ | ⟨⟩
  · refine (Tryz.strconv_Atoi_ok s (by omega) v h w).mono ?_
    rintro e w' ⟨rfl, (rfl | ⟨t, rfl⟩)⟩
    · exact ⟨Only.refl _ _, Or.inl ⟨v, rfl, rfl⟩⟩
    · exact ⟨only_bytes _ _ _, Or.inl ⟨v, rfl, rfl⟩⟩
  · obtain ⟨tp, p, h1⟩ := hv.syn
    refine (Tryz.strconv_Atoi_syntax_var s (by omega) h tp p w h1).mono ?_
    rintro e w' ⟨N, rfl, _, _, hb⟩
    exact ⟨Only.of_below hb, Or.inr ⟨(fun v h2 => by cases h2), _, N, rfl⟩⟩
  · obtain ⟨tp, p, h1⟩ := hv.rng
    refine (Tryz.strconv_Atoi_range_var s (by omega) h tp p w h1).mono ?_
    rintro e w' ⟨N, rfl, _, _, hb⟩
    exact ⟨Only.of_below hb, Or.inr ⟨(fun v h2 => by cases h2), _, N, rfl⟩⟩
/-- The age that a record tells; 0: none. -/
def ageL (r : Bs) : Int :=
  if Lib.hasPrefix r [103, 32] = true then
    match Lib.atoiAll (r.drop 2) with
    | .ok v => if 1 ≤ v ∧ (r.drop 2).length ≤ 18 ∧ Lib.itoa v = r.drop 2 then v else 0
    | _ => 0
  else 0
theorem atoi_bound {l : Bs} {v : Int} (h : Lib.atoiAll l = .ok v) : -9223372036854775808 ≤ v ∧ v ≤ 9223372036854775807 := by
  unfold Lib.atoiAll at h
  cases l with
  | nil => cases h
  | cons c r =>
    simp only at h
    split at h
    · cases h
    · cases h
    · split at h
      · cases h
      · split at h
        · cases h
        · rename_i h1 h2
          injection h with h
          subst h
          split
          · rename_i h3
            have : ¬ (9223372036854775808 < _) := fun h4 => h2 ⟨h3, h4⟩
            omega
          · rename_i h3
            have : ¬ (9223372036854775808 ≤ _) := fun h4 => h1 ⟨h3, h4⟩
            omega
set_option maxHeartbeats 2000000 in
theorem age_of (s : ByteArray) (hs : s.size ≤ 100000) (w : World) (hv : Vars w) :
    Calls Tryz.prog 52 #[.string s] w fun e w' => e = .returned (.int .i64 (ageL s.data.toList)) ∧ Only [] w w' := by
  have HV := Lib.hid hv
  obtain ⟨D, hD⟩ : ∃ D : ByteArray, D = ⟨(Lib.trimPrefix s.data.toList [103, 32]).toArray⟩ := ⟨_, rfl⟩
  have HCP : Hid (Calls Tryz.prog 70 #[.string s, .string { data := #[103, 32] }] w fun e w' => e = .returned (.tuple #[.string D, .bool (Lib.hasPrefix s.data.toList [103, 32])]) ∧ w' = w) := by
    rw [hD]
    exact Tryz.strings_CutPrefix s ⟨#[103, 32]⟩ w
  have hDl : D.data.toList = Lib.trimPrefix s.data.toList [103, 32] := by rw [hD]
  have hDs : D.size ≤ 100000 := by
    have : D.size = D.data.toList.length := rfl
    rw [this, hDl]
    unfold Lib.trimPrefix
    have hsl : s.data.toList.length = s.size := rfl
    split
    · rw [List.length_drop]; omega
    · omega
  have HDL := Lib.hid hDl
  have HAT := Lib.hid (atoi_any D hDs w hv)
  have HAG : Hid (ageL s.data.toList = if Lib.hasPrefix s.data.toList [103, 32] = true then match Lib.atoiAll (s.data.toList.drop 2) with | .ok v => if 1 ≤ v ∧ (s.data.toList.drop 2).length ≤ 18 ∧ Lib.itoa v = s.data.toList.drop 2 then v else 0 | _ => 0 else 0) := rfl
  have HDD : Hid (Lib.hasPrefix s.data.toList [103, 32] = true → D.data.toList = s.data.toList.drop 2) := fun h => by
    rw [hDl, Lib.trimPrefix, if_pos h]
    rfl
  clear hD hDl hv
  cases hP : Lib.hasPrefix s.data.toList [103, 32]
  · rw [hP] at HCP
    have HA0 : Hid (ageL s.data.toList = 0) := by show _ = _; rw [HAG.out, hP]; rfl
    clear hP HDD
    go_enter Tryz.func52, Tryz.ntmps52
    go_wp2_with fail
    refine (HCP.out).mono ?_
    rintro e _ ⟨rfl, rfl⟩
    go_wp2_with fail
    refine (HAT.out).mono ?_
    rintro e w2 ⟨ho2, (⟨v, _, rfl⟩ | ⟨_, v, N, rfl⟩)⟩
    all_goals have HO2 := Lib.hid ho2
    all_goals clear ho2
    all_goals go_wp2_with fail
    all_goals go_ret
    all_goals exact ⟨by rw [HA0.out]; rfl, HO2.out⟩
  · rw [hP] at HCP
    have hdd := HDD.out hP
    have HDD2 := Lib.hid hdd
    have HP := Lib.hid hP
    clear hP hdd HDD
    go_enter Tryz.func52, Tryz.ntmps52
    go_wp2_with fail
    refine (HCP.out).mono ?_
    rintro e _ ⟨rfl, rfl⟩
    go_wp2_with fail
    refine (HAT.out).mono ?_
    rintro e w2 ⟨ho2, (⟨v, hav, rfl⟩ | ⟨hno, v, N, rfl⟩)⟩
    · have HO2 := Lib.hid ho2
      obtain ⟨hv1, hv2⟩ := atoi_bound hav
      rw [HDD2.out] at hav
      have HA1 : Hid (ageL s.data.toList = if 1 ≤ v ∧ (s.data.toList.drop 2).length ≤ 18 ∧ Lib.itoa v = s.data.toList.drop 2 then v else 0) := by show _ = _; rw [HAG.out, HP.out, if_pos rfl, hav]
      have HIT := Lib.hid (Tryz.strconv_Itoa v hv1 hv2 w2 (HV.out.only ho2).tab)
      clear ho2 hav
      by_cases h1 : v < 1
      · have HA0 : Hid (ageL s.data.toList = 0) := by show _ = _; rw [HA1.out, if_neg (by omega)]
        go_wp2_with fail
        go_ret
        exact ⟨by rw [HA0.out]; rfl, HO2.out⟩
      · by_cases h18 : 18 < D.size
        · have HA0 : Hid (ageL s.data.toList = 0) := by
            show _ = _
            rw [HA1.out, if_neg]
            rintro ⟨_, h, _⟩
            rw [← HDD2.out] at h
            have : D.data.toList.length = D.size := rfl
            omega
          have g1 : ¬ v < 1 := h1
          have g2 : (18 : Int) < (D.size : Int) := by omega
          go_wp2_with fail
          go_ret
          exact ⟨by rw [HA0.out]; rfl, HO2.out⟩
        · have g2 : ¬ (18 : Int) < (D.size : Int) := by omega
          obtain ⟨IT, hIT⟩ : ∃ IT : ByteArray, IT = ⟨(Lib.itoa v).toArray⟩ := ⟨_, rfl⟩
          rw [← hIT] at HIT
          have hil : IT.data.toList = Lib.itoa v := by rw [hIT]
          by_cases heq : Lib.itoa v = D.data.toList
          · have hsb : (IT.toList == D.toList) = true := by rw [ByteArray.toList_eq, ByteArray.toList_eq, hil, heq]; exact beq_self_eq_true _
            have HA0 : Hid (ageL s.data.toList = v) := by
              show _ = _
              rw [HA1.out, if_pos]
              refine ⟨by omega, ?_, by rw [heq, HDD2.out]⟩
              rw [← HDD2.out]
              have : D.data.toList.length = D.size := rfl
              omega
            clear hIT hil heq
            go_wp2_with fail
            refine (HIT.out).mono ?_
            rintro e w3 ⟨rfl, k, os, rfl⟩
            have HO3 : Hid (Only [] w2 («Sort».grow (w2.drewN k) os)) := Only.of_below ((Below.refl _ _).trans (Go.Lib.below_grow _ _ (Nat.le_refl _) k os))
            go_wp2_with fail
            go_ret
            exact ⟨by rw [HA0.out]; rfl, HO2.out.tr HO3.out⟩
          · have hsb : (IT.toList == D.toList) = false := by
              rw [ByteArray.toList_eq, ByteArray.toList_eq, hil, beq_eq_false_iff_ne]
              exact heq
            have HA0 : Hid (ageL s.data.toList = 0) := by
              show _ = _
              rw [HA1.out, if_neg]
              rintro ⟨_, _, h⟩
              exact heq (by rw [h, HDD2.out])
            clear hIT hil heq
            go_wp2_with fail
            refine (HIT.out).mono ?_
            rintro e w3 ⟨rfl, k, os, rfl⟩
            have HO3 : Hid (Only [] w2 («Sort».grow (w2.drewN k) os)) := Only.of_below ((Below.refl _ _).trans (Go.Lib.below_grow _ _ (Nat.le_refl _) k os))
            go_wp2_with fail
            go_ret
            exact ⟨by rw [HA0.out]; rfl, HO2.out.tr HO3.out⟩
    · have HO2 := Lib.hid ho2
      rw [HDD2.out] at hno
      have HA0 : Hid (ageL s.data.toList = 0) := by
        show _ = _
        rw [HAG.out, HP.out, if_pos rfl]
        split
        · rename_i v h
          exact absurd h (hno v)
        · rfl
      clear ho2 hno
      go_wp2_with fail
      go_ret
      exact ⟨by rw [HA0.out]; rfl, HO2.out⟩
end Go.Proofs.YtngcdkbnljoodaaGreatDoor

