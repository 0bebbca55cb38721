/- Same and block: what the journal's laws use of the references. No conditions beyond those typed. -/
import Derived.Test.YtngcdkbnljoodaaJouV
namespace Go.Proofs.Ytngcdkbnljoodaa
set_option linter.unusedVariables false
set_option linter.unusedSimpArgs false
open Go.RowKit Go.Proofs.YtngcdkbnljoodaaW.PrintWords

/-- A row of strings, to be read. -/
def RowS (w : World) (v : Value) (l : List Bs) : Prop := ∃ a cap, v = .slice a l.length cap ∧ ∀ k x, l[k]? = some x → ∃ p, a = some p ∧ w.cell? (p.add k) = some (strV x)
theorem addr_add0 (g k : Nat) : (⟨g, 0, none⟩ : Addr).add k = ⟨g, k, none⟩ := by unfold Addr.add; cases k <;> simp
theorem RowS.of_own {w : World} {base : Nat} {v : Value} {l : List Bs} (h : w.ownsRow base 9 1 v l.length (l.map strV)) : RowS w v l := by
  rcases own_cells h with ⟨rfl, rfl⟩ | ⟨g, cap, rfl, hg, hc⟩
  · exact ⟨none, 0, rfl, fun k x h => by simp at h⟩
  · exact ⟨_, cap, rfl, fun k x h => ⟨_, rfl, by rw [addr_add0]; exact hc k x h⟩⟩
theorem same_bytes (a b : Bs) : ((mkS a).toList == (mkS b).toList) = decide (a = b) := by
  rw [ByteArray.toList_eq, ByteArray.toList_eq, list_mkS, list_mkS]
  rw [Bool.eq_iff_iff]
  simp
set_option maxHeartbeats 2000000 in
theorem Same_of {w : World} {v u : Value} {l m : List Bs} (hv : RowS w v l) (hu : RowS w u m) (hl : l.length ≤ 9000000000000000000) :
    Calls Try.prog 21 #[v, u] w fun e w' => e = .returned (.bool (decide (l = m))) ∧ ∃ k, w' = w.drewN k := by
  obtain ⟨a, ca, rfl, ha⟩ := hv
  obtain ⟨b, cb, rfl, hb⟩ := hu
  by_cases hne : l.length = m.length
  · obtain ⟨L, hL⟩ : ∃ L, L = l.length := ⟨_, rfl⟩
    have hM : m.length = L := by omega
    rw [← hL] at hl ⊢
    rw [hM]
    have HL := Lib.hid hL
    have HM := Lib.hid hM
    have HA := Lib.hid ha
    have HB := Lib.hid hb
    clear hne ha hb hL hM
    go_enter Try.func21, Try.ntmps21
    go_wp2
    go_loopw [5] (fun i wr => ∃ k : Nat, k ≤ L ∧ i = .int .i64 (k : Int) ∧ Hid (∀ j, j < k → l[j]? = m[j]?) ∧ ∃ d, wr = w.drewN d) (fun i _ => L - (intOf i).toNat)
    case atStart => exact ⟨0, Nat.zero_le _, rfl, Lib.hid (fun j hj => absurd hj (Nat.not_lt_zero j)), 0, rfl⟩
    case round =>
      obtain ⟨k, hk, rfl, HS, d, rfl⟩ := hrel
      by_cases hkL : k < L
      · obtain ⟨x, hx⟩ : ∃ x, l[k]? = some x := ⟨_, List.getElem?_eq_getElem (by have := HL.out; omega)⟩
        obtain ⟨y, hy⟩ : ∃ y, m[k]? = some y := ⟨_, List.getElem?_eq_getElem (by have := HM.out; omega)⟩
        obtain ⟨p, rfl, hcx⟩ := HA.out k x hx
        obtain ⟨q, rfl, hcy⟩ := HB.out k y hy
        have hs := same_bytes x y
        have HX := Lib.hid hx
        have HY := Lib.hid hy
        have hc1 : ((k : Int) < (L : Int)) := by omega
        have hc0 : (0 : Int) ≤ (k : Int) := by omega
        have hwr : IntKind.i64.wrap ((k : Int) + 1) = (k : Int) + 1 := IntWalk.i64_in _ (by omega)
        unfold strV at hcx hcy
        by_cases hxy : x = y
        · rw [decide_eq_true hxy] at hs
          have HXY := Lib.hid hxy
          clear hx hy hxy
          go_wp2
          go_quiet (fail)
          go_wp2
          go_roundw
          case rel =>
            refine ⟨k + 1, by omega, rfl, Lib.hid (fun j hj => ?_), _, rfl⟩
            rcases Nat.lt_succ_iff_lt_or_eq.1 hj with h | h
            · exact HS.out j h
            · rw [h, HX.out, HY.out, HXY.out]
          case measure => simp [intOf]; omega
        · rw [decide_eq_false hxy] at hs
          have hlm : l ≠ m := fun e => hxy (by rw [e, hy] at hx; exact (Option.some.inj hx).symm)
          have HLM := Lib.hid hlm
          clear hx hy hxy hlm
          go_wp2
          go_quiet (fail)
          go_wp2
          go_ret
          exact ⟨by rw [decide_eq_false HLM.out]; rfl, _, World.drewN_drewN _ _ _⟩
      · have hkk : k = L := by omega
        subst hkk
        have hlm : l = m := by
          apply List.ext_getElem?
          intro j
          rcases Nat.lt_or_ge j k with h | h
          · exact HS.out j h
          · rw [List.getElem?_eq_none (by have := HL.out; omega), List.getElem?_eq_none (by have := HM.out; omega)]
        have HLM := Lib.hid hlm
        clear hlm hkL
        go_wp2
        go_ret
        exact ⟨by rw [decide_eq_true HLM.out]; rfl, _, rfl⟩
  · have hb1 : ((l.length : Int) != (m.length : Int)) = true := by rw [bne_iff_ne]; omega
    have hb2 : (l.length == m.length) = false := by rw [beq_eq_false_iff_ne]; exact hne
    have hlm : l ≠ m := fun e => hne (by rw [e])
    have HLM := Lib.hid hlm
    clear hne ha hb hlm
    go_enter Try.func21, Try.ntmps21
    go_wp2
    go_ret
    exact ⟨by rw [decide_eq_false HLM.out]; rfl, 0, rfl⟩
end Go.Proofs.Ytngcdkbnljoodaa
