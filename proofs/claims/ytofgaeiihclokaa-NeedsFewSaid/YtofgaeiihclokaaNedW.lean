/- (ring.Net).ways: of a point that there is, those of its ways that lead to a point, in a new slice. No conditions beyond those typed. -/
import Derived.Test.YtofgaeiihclokaaNedF
import Derived.Test.YtofgaeiihclokaaShelf
import Derived.Lib.OwnBridge
import Derived.Lib.SliceRun
import Derived.Lib.Hide
namespace Go.Proofs.Ytofgaeiihclokaa.P
open Go.RowKit Go.Shelf Go.Lib Go.Sort Go.Proofs.YtofgaeiihclokaaW.PrintWords Go.Proofs.YtofgaeiihclokaaW.PrintLast Go.Proofs.YtofgaeiihclokaaW.PrintMore
set_option linter.unusedVariables false
set_option linter.unusedSimpArgs false

/-- The cells of a row of numbers that is read. -/
theorem ints_cells {w : World} {A : Option Addr} {n : Nat} {xs : List Int} (h : Kd.C (Kd.int .i64) w A n xs) : xs.length = n ∧ n ≤ 9223372036854775807 ∧ (0 < n → ∃ b off, A = some ⟨b, off, none⟩ ∧ ∀ j, j < n → w.cell? ⟨b, off + j, none⟩ = some (.int .i64 (xs.getD j 0))) := by
  refine ⟨h.1, h.2.1, fun hn => ?_⟩
  obtain ⟨ad, rfl, hc⟩ := h.2.2 hn
  have hcell : ∀ j, j < n → w.cell? (ad.add j) = some (.int .i64 (xs.getD j 0)) := by
    intro j hj
    have hl : j < xs.length := by have := h.1; omega
    obtain ⟨c, _, hr, hx⟩ := hc j _ (List.getElem?_eq_getElem hl)
    obtain rfl : c = [.int .i64 xs[j]] := hr
    have := hx 0 _ rfl
    simp only [Kd.int, Kd.scalar, Nat.mul_one, Nat.add_zero] at this
    rw [this, List.getD_eq_getElem?_getD, List.getElem?_eq_getElem hl]
    rfl
  obtain ⟨b, off, sub⟩ := ad
  have h0 := hcell 0 hn
  cases sub with
  | none =>
    refine ⟨b, off, rfl, fun j hj => ?_⟩
    have h1 := hcell j hj
    unfold Addr.add at h1
    split at h1
    · rename_i e0
      subst e0
      exact h1
    · exact h1
  | some s =>
    exfalso
    simp only [Addr.add, if_true, World.cell?] at h0
    split at h0
    · simp at h0
    · cases h0

/-- A row of a net. -/
theorem net_at {w : World} {A : Option Addr} {n : Nat} {xs : List (List Int)} (h : Kd.C (Kd.slice 3 (Kd.int .i64)) w A n xs) (i : Int) (h0 : 0 ≤ i) (h1 : i < n) :
    ∃ ad A0 c0, A = some ad ∧ w.cell? (ad.add i.toNat) = some (.slice A0 (xs.getD i.toNat []).length c0) ∧ (xs.getD i.toNat []).length ≤ c0 ∧ Kd.C (Kd.int .i64) w A0 (xs.getD i.toNat []).length (xs.getD i.toNat []) := by
  obtain ⟨ad, c, e, _, hK, hc0⟩ := Kd.C_get h ([] : List Int) i h0 h1
  have hc : ∀ j u, c[j]? = some u → w.cell? (ad.add (i.toNat * 1 + j)) = some u := hc0
  obtain ⟨A0, c0, rfl, l0, g0⟩ := hK
  exact ⟨ad, A0, c0, e, by have hq := hc 0 _ rfl; rwa [Nat.mul_one, Nat.add_zero] at hq, l0, g0⟩

/-- slices.Clone of a row of numbers. -/
theorem clone_ints (A : Option Addr) (c : Nat) (zs : List Int) (w : World) (h : Kd.C (Kd.int .i64) w A zs.length zs) (hb : zs.length < 17592186044416) :
    Calls Try.prog 60 #[.slice A zs.length c] w fun e w' => ∃ v, e = .returned v ∧ w'.ownsRow w.heap.size 3 1 v zs.length (zs.map (Value.int .i64)) ∧ Below w.heap.size w w' := by
  cases A with
  | none =>
    have h0 : zs = [] := by
      rcases Nat.eq_zero_or_pos zs.length with e | e
      · exact List.length_eq_zero_iff.1 e
      · obtain ⟨ad, h1, _⟩ := h.2.2 e; cases h1
    subst h0
    refine (Try.slices_Clone_int_nil _ c w).mono ?_
    rintro e w' ⟨rfl, rfl⟩
    exact ⟨_, rfl, own_nil _ _ _ _, Below.refl _ _⟩
  | some ad =>
    rcases Nat.eq_zero_or_pos zs.length with e | e
    · obtain rfl : zs = [] := List.length_eq_zero_iff.1 e
      refine (Try.slices_Clone_int_zero ad c w).mono ?_
      rintro e w' ⟨v, rfl, ho, _, hb'⟩
      exact ⟨v, rfl, ho, hb'⟩
    · obtain ⟨_, _, hc⟩ := ints_cells h
      obtain ⟨b, off, h1, hcell⟩ := hc e
      injection h1 with h1
      subst h1
      refine (Try.slices_Clone_int b off zs.length c zs w (Nat.le_refl _) (by omega) (fun j hj => hcell j hj)).mono ?_
      rintro e w' ⟨v, rfl, ho, _, hb'⟩
      rw [List.take_length] at ho
      exact ⟨v, rfl, ho, hb'⟩

/-- Is there a point? -/
theorem has_of (a : Option Addr) (n c : Nat) (k : Int) (W : World) (hn : n ≤ 9223372036854775807) :
    Calls Try.prog 65 #[.slice a n c, .int .i64 k] W fun e w' => e = .returned (.bool (decide (0 ≤ k) && decide (k < (n : Int)))) ∧ ∃ q, w' = W.drewN q := by
  go_enter Try.func65, Try.ntmps65
  by_cases h0 : 0 ≤ k
  · have h1 : decide (k ≥ 0) = true := decide_eq_true h0
    go_wp2_with fail
    go_ret
    exact ⟨by simp [h0], 0, rfl⟩
  · have h1 : decide (k ≥ 0) = false := decide_eq_false h0
    go_wp2_with fail
    go_ret
    exact ⟨by simp [h0], 0, rfl⟩

/-- The predicate that strikes a way: no point. -/
theorem ways_gives (a : Option Addr) (n c B : Nat) (x : Int) (W : World) (hn : n ≤ 9223372036854775807) (hc : W.cell? ⟨B, 0, none⟩ = some (.slice a n c)) :
    FnGives Try.prog 72 #[.pointer (some ⟨B, 0, none⟩)] #[.int .i64 x] (.bool (!(decide (0 ≤ x) && decide (x < (n : Int))))) W := by
  show Calls Try.prog 72 #[.int .i64 x, .pointer (some ⟨B, 0, none⟩)] W _
  go_enter Try.func72, Try.ntmps72
  go_wp2_with fail
  refine (has_of a n c x _ hn).mono ?_
  rintro e w' ⟨rfl, q, rfl⟩
  go_wp2_with fail
  go_ret
  exact ⟨by simp, q, rfl⟩

/-- slices.DeleteFunc of a row of the call's own, by that predicate. -/
theorem ways_delete (a : Option Addr) (n c B base : Nat) (v : Value) (zs : List Int) (W : World) (hn : n ≤ 9223372036854775807) (hB : B < W.heap.size) (hc : W.cell? ⟨B, 0, none⟩ = some (.slice a n c))
    (hown : W.ownsRow base 3 1 v zs.length (zs.map (Value.int .i64))) (hl : zs.length < 17592186044416) (hne : ∀ g, v.ownBlock = some g → B ≠ g) :
    Calls Try.prog 71 #[v, .func (.func 72) #[] #[.pointer (some ⟨B, 0, none⟩)]] W fun e w' => ∃ v', e = .returned v' ∧
      w'.ownsRow base 3 1 v' (zs.filter fun k => decide (0 ≤ k) && decide (k < (n : Int))).length ((zs.filter fun k => decide (0 ≤ k) && decide (k < (n : Int))).map (Value.int .i64)) ∧ Below base W w' := by
  have eg : ∀ args w, (callFunc 72 args).run Try.prog w = .ok (.enter 72 args) w := enters_of Try.func72 (by kernel_rfl) rfl
  by_cases hv : v = .slice none 0 0
  · subst hv
    have h0 : zs = [] := by
      rcases hown.2 with ⟨_, e⟩ | ⟨g, cap, cur, e, _⟩
      · exact List.length_eq_zero_iff.1 e
      · cases e
    subst h0
    go_enter Try.func71, Try.ntmps71
    go_wp2_with fail
    refine (AnyE.slices_IndexFunc_empty { Try.delF with } none 0 _ _).mono ?_
    rintro e w' ⟨rfl, rfl⟩
    go_wp2_with fail
    go_ret
    exact ⟨_, rfl, own_nil _ _ _ _, Below.refl _ _⟩
  · obtain ⟨g, cap, rfl, hbg, hlt, hcap, hm, hzl, hH⟩ := holds_of_ownsRow hown hv
    have hBg : B ≠ g := hne g rfl
    have hcon := AnyE.slices_DeleteFunc Try.delF (Value.int .i64) (fun _ => rfl) (fun x => !(decide (0 ≤ x) && decide (x < (n : Int)))) 72 #[.pointer (some ⟨B, 0, none⟩)] eg 0 Try.zeroValue3 g 0 cap zs.toArray W
      (fun W' x hb => ways_gives a n c B x W' hn ((hb.cell (p := ⟨B, 0, none⟩) hB).trans hc))
      (fun m os dk x _ => ways_gives a n c B x _ hn (by
        unfold sortWorld
        rw [cell?_grow _ _ _ (by show B < (putRow _ _ _ _ _).heap.size; rw [size_putRow]; exact hB), cell?_putRow_other _ _ g 0 _ _ (Or.inl hBg)]
        exact hc)) hH (by simp; omega) (by simpa using hcap)
    refine Calls.mono (show Calls Try.prog 71 _ _ _ from hcon) ?_
    rintro e w' ⟨rfl, q, rfl⟩
    have hf : (zs.toArray.toList.filter fun x => !(!(decide (0 ≤ x) && decide (x < (n : Int))))) = zs.filter fun k => decide (0 ≤ k) && decide (k < (n : Int)) := by simp
    rw [hf]
    have hle : (zs.filter fun k => decide (0 ≤ k) && decide (k < (n : Int))).length ≤ zs.length := List.length_filter_le _ _
    refine ⟨_, rfl, ?_, below_putRow (Below.refl _ _) hbg⟩
    have := ownsRow_putRow (enc := Value.int .i64) (q := q) (k := (zs.filter fun k => decide (0 ≤ k) && decide (k < (n : Int))).length) (ys := (zs.filter fun k => decide (0 ≤ k) && decide (k < (n : Int))) ++ List.replicate (zs.length - (zs.filter fun k => decide (0 ≤ k) && decide (k < (n : Int))).length) 0) hown (by simp; omega) hle
    rw [List.take_left] at this
    simpa using this

theorem ring_Net_ways.calls (A0 : Option Addr) (c0 : Nat) (l0 : List (List Int)) (a1 : Int) (r : List Int) (w : World) (hr0 : Kd.C (Kd.slice 3 (Kd.int .i64)) w A0 l0.length l0) (hc0 : l0.length ≤ c0) (h : ring_Net_ways.f l0 a1 = some r) :
    Calls Try.prog 58 #[.slice A0 l0.length c0, .int .i64 a1] w fun e w' => ∃ v0_ : Value, e = .returned (v0_) ∧ Kd.R (Kd.int .i64) 3 w' w.heap.size (fun _ => True) v0_ r ∧ Below w.heap.size w w' := by
  unfold ring_Net_ways.f at h
  split at h
  · rename_i hg
    injection h with h
    obtain ⟨h0, h1, h2⟩ := hg
    obtain ⟨ad, Ai, ci, rfl, hcell, hci, hCi⟩ := net_at hr0 a1 h0 h1
    have hn : l0.length ≤ 9223372036854775807 := hr0.2.1
    generalize l0.getD a1.toNat [] = zs at *
    generalize l0.length = n at *
    subst h
    have hc1 : (w.alloc (.cells #[.slice (some ad) n c0] 38)).cell? (ad.add a1.toNat) = some (.slice Ai zs.length ci) := Lib.cell?_alloc_some _ hcell
    have HC := Lib.hid (Kd.C_below hCi ((Below.refl w.heap.size w).alloc (Nat.le_refl _) (.cells #[.slice (some ad) n c0] 38)))
    clear hr0 hCi
    go_enter Try.func58, Try.ntmps58
    go_wp2_with fail
    refine (clone_ints Ai ci zs _ HC.out h2).mono ?_
    rintro e w1 ⟨v, rfl, ho1, hb1⟩
    have HO1 := Lib.hid ho1
    have HB1 := Lib.hid hb1
    clear ho1 hb1
    go_wp2_with fail
    refine (ways_delete (some ad) n c0 w.heap.size w.heap.size v zs _ hn ?_ ?_ ?_ h2 ?_).mono ?_
    · have := HB1.out.size; simp at this ⊢; omega
    · rw [HB1.out.cell (p := ⟨w.heap.size, 0, none⟩) (by simp)]; simp
    · exact own_weaken HO1.out (by simp)
    · intro g hg e
      have h4 := own_base HO1.out _ hg
      have h5 : (w.alloc (.cells #[.slice (some ad) n c0] 38)).heap.size = w.heap.size + 1 := by simp
      omega
    · rintro e w2 ⟨v2, rfl, ho2, hb2⟩
      have HO2 := Lib.hid ho2
      have HB2 := Lib.hid (((Below.refl w.heap.size w).alloc (Nat.le_refl _) (.cells #[.slice (some ad) n c0] 38)).trans ((HB1.out.mono (by simp)).trans hb2))
      clear ho2 hb2
      go_wp2_with fail
      go_ret
      exact ⟨v2, rfl, Kd.R_of_own HO2.out (fun _ _ => trivial), HB2.out⟩
  · cases h
end Go.Proofs.Ytofgaeiihclokaa.P
