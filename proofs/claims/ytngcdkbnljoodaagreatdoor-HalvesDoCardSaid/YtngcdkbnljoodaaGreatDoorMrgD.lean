/- Halves, plain: what stands in a half behind an append, a snapshot, an opening, whenever the power goes. No conditions beyond those typed. Halves, plain: a half laid anew, a snapshot, an opening, whenever the power goes. No conditions beyond those typed. Halves, plain: a fuse is counted; a new store; halves within a walk. No conditions beyond those typed. Halves that are up, call by call. No conditions beyond those typed. -/
import Derived.Test.YtngcdkbnljoodaaGreatDoorHalI
namespace Go.Proofs.YtngcdkbnljoodaaGreatDoor
set_option linter.unusedVariables false
set_option linter.unusedSimpArgs false
open Go.RowKit Go.Proofs.YtngcdkbnljoodaaGreatDoorW.PrintWords

theorem dig_toNat {i : Nat} (h : i < 10) : (UInt8.ofNat (48 + i)).toNat = 48 + i := by
  rw [UInt8.toNat_ofNat']
  omega
theorem parse_dec : ∀ (u : Nat) (r : List UInt8), u < 1000000000000000000 → Lib.parseUint10 0 (Lib.decDigits u ++ r) = Lib.parseUint10 u r := by
  intro u
  induction u using Nat.strongRecOn with
  | _ u ih =>
    intro r hu
    rw [Lib.decDigits]
    split
    · rename_i h
      show Lib.parseUint10 0 (UInt8.ofNat (48 + u) :: r) = _
      rw [Lib.parseUint10, dig_toNat h, if_pos (by omega), if_neg (by omega), if_neg (by omega)]
      congr 1
      omega
    · rename_i h
      rw [List.append_assoc, ih (u / 10) (by omega) _ (by omega)]
      show Lib.parseUint10 (u / 10) (UInt8.ofNat (48 + u % 10) :: r) = _
      rw [Lib.parseUint10, dig_toNat (by omega), if_pos (by omega), if_neg (by omega), if_neg (by omega)]
      congr 1
      omega
theorem dec_head : ∀ (u : Nat), ∃ c r, Lib.decDigits u = c :: r ∧ 48 ≤ c.toNat ∧ c.toNat ≤ 57 := by
  intro u
  induction u using Nat.strongRecOn with
  | _ u ih =>
    rw [Lib.decDigits]
    split
    · rename_i h
      exact ⟨_, _, rfl, by rw [dig_toNat h]; omega, by rw [dig_toNat h]; omega⟩
    · rename_i h
      obtain ⟨c, r, h1, h2, h3⟩ := ih (u / 10) (by omega)
      rw [h1]
      exact ⟨c, _, rfl, h2, h3⟩
theorem atoi_itoa (n : Int) (h0 : 0 ≤ n) (h1 : n < 1000000000000000000) : Lib.atoiAll (Lib.itoa n) = .ok n := by
  obtain ⟨u, rfl⟩ := Int.eq_ofNat_of_zero_le h0
  have hi : Lib.itoa (u : Int) = Lib.decDigits u := by unfold Lib.itoa; rw [if_neg (by omega)]; simp
  obtain ⟨c, r, hc, h2, h3⟩ := dec_head u
  have hp := parse_dec u [] (by omega)
  rw [List.append_nil, hc] at hp
  rw [hi, hc]
  unfold Lib.atoiAll
  simp only
  rw [if_neg (by omega)]
  unfold Lib.parseMag
  rw [if_neg (by simp), hp]
  simp only [Lib.parseUint10]
  rw [if_neg (by omega), if_neg (by omega), if_neg (by omega)]
theorem nDigits_le : ∀ (k u : Nat), u < 10 ^ (k + 1) → Lib.nDigits u ≤ k + 1
  | 0, u, h => by rw [Lib.nDigits_small (by simpa using h)]; omega
  | k + 1, u, h => by
    by_cases h10 : u < 10
    · rw [Lib.nDigits_small h10]; omega
    · rw [Lib.nDigits_big h10]
      have := nDigits_le k (u / 10) (by rw [Nat.pow_succ] at h; omega)
      omega
theorem itoa_len (n : Int) (h0 : 0 ≤ n) (h1 : n < 1000000000000000000) : (Lib.itoa n).length ≤ 18 := by
  obtain ⟨u, rfl⟩ := Int.eq_ofNat_of_zero_le h0
  have hi : Lib.itoa (u : Int) = Lib.decDigits u := by unfold Lib.itoa; rw [if_neg (by omega)]; simp
  rw [hi, Lib.decDigits_length]
  exact nDigits_le 17 u (by omega)
theorem age_ageB (a : Int) (h1 : 1 ≤ a) (h2 : a ≤ 999999999999999999) : ageL (ageB a) = a := by
  unfold ageL ageB
  rw [if_pos (by rfl)]
  show (match Lib.atoiAll (Lib.itoa a) with | .ok v => if 1 ≤ v ∧ (Lib.itoa a).length ≤ 18 ∧ Lib.itoa v = Lib.itoa a then v else 0 | _ => 0) = a
  rw [atoi_itoa a (by omega) (by omega)]
  show (if 1 ≤ a ∧ (Lib.itoa a).length ≤ 18 ∧ Lib.itoa a = Lib.itoa a then a else 0) = a
  rw [if_pos ⟨h1, itoa_len a (by omega) (by omega), rfl⟩]
def tlB (x : Bs) : Bs := [116, 32] ++ x
theorem snB_ne (x : Bs) : snB x ≠ liveB := by
  unfold snB liveB
  intro h
  cases h
theorem body_sn : ∀ (sn : List Bs) (rest : List Bs) (a : List Bs), bodyL (sn.map snB ++ rest) false a [] = bodyL rest false (a ++ sn) []
  | [], rest, a => by rw [List.map_nil, List.nil_append, List.append_nil]
  | x :: t, rest, a => by
    rw [List.map_cons, List.cons_append, bodyL, if_neg (fun h => snB_ne x h.2), if_pos ⟨rfl, by unfold snB; rfl⟩, body_sn t rest]
    rw [show (snB x).drop 2 = x from rfl, List.append_assoc]
    rfl
theorem body_tl : ∀ (tl : List Bs) (sn a : List Bs), bodyL (tl.map tlB) true sn a = some (sn, a ++ tl)
  | [], sn, a => by rw [List.map_nil, List.append_nil]; rfl
  | x :: t, sn, a => by
    rw [List.map_cons, bodyL, if_neg (fun h => by cases h.1), if_neg (fun h => by cases h.1), if_pos ⟨rfl, by unfold tlB; rfl⟩, body_tl t sn]
    rw [show (tlB x).drop 2 = x from rfl, List.append_assoc]
    rfl
/-- The records of a half. -/
def halfR (a : Int) (sn tl : List Bs) : List Bs := recsL a sn ++ tl.map tlB
theorem read_half (a : Int) (sn tl : List Bs) (h1 : 1 ≤ a) (h2 : a ≤ 999999999999999999) : readL (halfR a sn tl) = (a, sn, tl) := by
  unfold halfR recsL
  rw [List.cons_append, List.cons_append, readL_cons, age_ageB a h1 h2, if_neg (by omega), List.append_assoc, body_sn, List.singleton_append, bodyL, if_pos ⟨rfl, rfl⟩, body_tl]
  rfl
theorem read_short (a : Int) (sn : List Bs) (q : Nat) (hq : q < (recsL a sn).length) : readL ((recsL a sn).take q) = (0, [], []) := by
  cases q with
  | zero => rfl
  | succ q =>
    unfold recsL at hq ⊢
    rw [List.cons_append, List.take_succ_cons]
    have hle : q ≤ (sn.map snB).length := by simp at hq ⊢; omega
    rw [List.take_append_of_le_length hle, ← List.map_take, readL_cons]
    split
    · rfl
    · have := body_sn (sn.take q) [] []
      rw [List.append_nil] at this
      rw [this]
      rfl
theorem halfL_scan {s : St} {k : Nat} {l : List Bs} {t : Bs} (h : IsScan (partB s (k * (s.n / 2)) (s.n / 2)) l t) : halfL s k = readL l := by
  unfold halfL
  rw [scanL_of h]
theorem halfL_congr {s s' : St} {k : Nat} (hn : s'.n = s.n) (h : partB s' (k * (s.n / 2)) (s.n / 2) = partB s (k * (s.n / 2)) (s.n / 2)) : halfL s' k = halfL s k := by
  unfold halfL
  rw [hn, h]
/-- A part alone has turned. -/
structure Away (s s' : St) (pf nb : Nat) : Prop where
  wf : s'.Wf
  n : s'.n = s.n
  other : ∀ pf2 nb2, s.Has pf2 nb2 → (pf2 + nb2 ≤ pf ∨ pf + nb ≤ pf2) → partB s' pf2 nb2 = partB s pf2 nb2
theorem Away.refl {s : St} (h : s.Wf) (pf nb : Nat) : Away s s pf nb := ⟨h, rfl, fun _ _ _ _ => rfl⟩
theorem Away.trans {a b c : St} {pf nb : Nat} (h : Away a b pf nb) (k : Away b c pf nb) : Away a c pf nb :=
  ⟨k.wf, k.n.trans h.n, fun pf2 nb2 h2 hd => (k.other pf2 nb2 (by unfold St.Has at h2 ⊢; rw [h.n]; exact h2) hd).trans (h.other pf2 nb2 h2 hd)⟩
theorem Turned.away {s s' : St} {pf nb : Nat} {P : Bs} (hs : s.Wf) (h : s.Has pf nb) (hP : P.length = 32 * nb) (t : Turned s s' pf nb P) : Away s s' pf nb := ⟨t.wf, t.n, fun _ _ h2 hd => t.other hs h hP h2 hd⟩
theorem half_apart {s : St} {u : Nat} (hu : u ≤ 1) : u * (s.n / 2) + s.n / 2 ≤ (1 - u) * (s.n / 2) ∨ (1 - u) * (s.n / 2) + s.n / 2 ≤ u * (s.n / 2) := by
  rcases (show u = 0 ∨ u = 1 by omega) with rfl | rfl
  · left; omega
  · right; omega
/-- A store tells an age, a snapshot, a tail. -/
structure Tells (s : St) (u : Nat) (X : Int × List Bs × List Bs) : Prop where
  wf : s.Wf
  n4 : 4 ≤ s.n
  u1 : u ≤ 1
  at_ : halfL s u = X
  other : (halfL s (1 - u)).1 < X.1
  pos : 1 ≤ X.1
  top : X.1 ≤ 999999999999999999
theorem Tells.use {s : St} {u : Nat} {X : Int × List Bs × List Bs} (h : Tells s u X) : openU s = u := by
  have h1 := h.other
  have h2 := h.at_
  unfold openU
  rcases (show u = 0 ∨ u = 1 by have := h.u1; omega) with rfl | rfl
  · rw [if_neg]
    rw [h2]
    simp at h1
    omega
  · rw [if_pos]
    rw [h2]
    simpa using h1
theorem Tells.congr {s s' : St} {u : Nat} {X : Int × List Bs × List Bs} (h : Tells s u X) (hw : s'.Wf) (hn : s'.n = s.n) (h1 : halfL s' u = halfL s u) (h2 : (halfL s' (1 - u)).1 < X.1) : Tells s' u X := ⟨hw, by rw [hn]; exact h.n4, h.u1, h1.trans h.at_, h2, h.pos, h.top⟩
theorem halfL_bs {s s' : St} (hn : s'.n = s.n) (hb : s'.bs = s.bs) (k : Nat) : halfL s' k = halfL s k := halfL_congr hn (by unfold partB; rw [hb])
theorem Tells.up {s : St} {u : Nat} {X : Int × List Bs × List Bs} (h : Tells s u X) : Tells s.up u X := h.congr (St.up_wf h.wf) rfl (halfL_bs rfl rfl u) (by rw [halfL_bs (s := s) (s' := s.up) rfl rfl (1 - u)]; exact h.other)
theorem Tells.setFuse {s : St} {u : Nat} {X : Int × List Bs × List Bs} (h : Tells s u X) (a b : Int) (ha : a ≤ 9223372036854775807) : Tells (s.setFuse a b) u X := h.congr (St.setFuse_wf h.wf a b ha) rfl (halfL_bs rfl rfl u) (by rw [halfL_bs (s := s) (s' := s.setFuse a b) rfl rfl (1 - u)]; exact h.other)
/-- Halves that agree with their store. -/
structure Fit (H : HT) : Prop where
  n4 : 4 ≤ H.J.s.n
  u1 : H.use ≤ 1
  sd : Sound H.J.s (H.use * (H.J.s.n / 2)) (H.J.s.n / 2) H.J.l
  fin : H.J.fin = (frames H.J.l).length
  o : H.J.o = false
  up : H.J.s.down = false
  dn : H.down = false
  l : H.J.l = halfR H.age H.sn H.tl
  other : (halfL H.J.s (1 - H.use)).1 < H.age
  pos : 1 ≤ H.age
  top : H.age ≤ 999999999999999999
theorem Fit.tells {H : HT} (h : Fit H) : Tells H.J.s H.use (H.age, H.sn, H.tl) :=
  ⟨h.sd.wf, h.n4, h.u1, by rw [halfL_scan h.sd.scan, h.l, read_half _ _ _ h.pos h.top], h.other, h.pos, h.top⟩
theorem frames_len_snoc (l : List Bs) (r : Bs) : (frames (l ++ [r])).length = (frames l).length + (r.length + 8) := by rw [frames_snoc, List.length_append, frameL_length]
theorem halfR_snoc (a : Int) (sn tl : List Bs) (r : Bs) : halfR a sn (tl ++ [r]) = halfR a sn tl ++ [tlB r] := by unfold halfR; rw [List.map_append, List.append_assoc]; rfl
theorem oth_half {s s' : St} {u : Nat} (hu : u ≤ 1) (h4 : 4 ≤ s.n) (h : Away s s' (u * (s.n / 2)) (s.n / 2)) : halfL s' (1 - u) = halfL s (1 - u) := by
  refine halfL_congr h.n (h.other _ _ (half_has (by omega) h4) ?_)
  rcases half_apart (s := s) hu with e | e
  · exact Or.inr e
  · exact Or.inl e
/-- A record behind a half. -/
theorem fit_append {H : HT} (h : Fit H) (r : Bs) : (H.append r).1.J.s.n = H.J.s.n ∧ (H.append r).1.use = H.use ∧
    (((H.append r).2 = 3 ∧ 398 < r.length ∧ (H.append r).1 = H) ∨ ((H.append r).2 = 14 ∧ r.length ≤ 398 ∧ 32 * (H.J.s.n / 2) < H.J.fin + (r.length + 10) ∧ (H.append r).1 = H) ∨
      ((H.append r).2 = 0 ∧ r.length ≤ 398 ∧ H.J.fin + (r.length + 10) ≤ 32 * (H.J.s.n / 2) ∧ Fit (H.append r).1 ∧ (H.append r).1.age = H.age ∧ (H.append r).1.sn = H.sn ∧ (H.append r).1.tl = H.tl ++ [r] ∧ (H.append r).1.J.fin = H.J.fin + (r.length + 10) ∧ (H.J.s.fuse = -1 → (H.append r).1.J.s.fuse = -1)) ∨
      ((H.append r).2 = 16 ∧ H.J.s.fuse ≠ -1 ∧ (H.append r).1.down = true ∧ (Tells (H.append r).1.J.s H.use (H.age, H.sn, H.tl) ∨ Tells (H.append r).1.J.s H.use (H.age, H.sn, H.tl ++ [r])))) := by
  unfold HT.append
  by_cases h398 : 398 < r.length
  · rw [if_pos h398]
    exact ⟨rfl, rfl, Or.inl ⟨rfl, h398, rfl⟩⟩
  · rw [if_neg h398, if_neg (by rw [h.dn]; simp)]
    have hlen : ([116, 32] ++ r : Bs).length = r.length + 2 := by simp
    have hsd := h.sd
    have hfin := h.fin
    obtain ⟨X, hX⟩ : ∃ X, X = H.J.app (H.use * (H.J.s.n / 2)) (H.J.s.n / 2) ([116, 32] ++ r) := ⟨_, rfl⟩
    rw [← hX]
    unfold JS.app at hX
    rw [hlen, if_neg (show ¬ (r.length + 2 = 0 ∨ 400 < r.length + 2) by omega)] at hX
    by_cases hroom : 32 * (H.J.s.n / 2) < H.J.fin + (r.length + 2 + 8)
    · rw [if_pos hroom] at hX
      rw [hX, if_neg (show ¬ ((14 : Int) = 0) by decide), if_neg (show ¬ ((14 : Int) = 16) by decide)]
      exact ⟨rfl, rfl, Or.inr (Or.inl ⟨rfl, by omega, by omega, rfl⟩)⟩
    · rw [if_neg hroom, if_neg (by rw [h.o]; simp), hfin] at hX
      have hok : okR ([116, 32] ++ r) := ⟨by omega, by omega⟩
      obtain ⟨P, hP, hT, hc, hf⟩ := append_ok hsd h.up hok (by rw [hlen]; omega)
      have ha := hT.away hsd.wf hsd.has hP
      have hpart := hT.part hsd.wf hsd.has hP
      have hoth := oth_half h.u1 h.n4 ha
      rcases hc with ⟨h0, hs0, hd0⟩ | ⟨h16, hd16, m, t, hm, hsc⟩
      · rw [if_pos h0] at hX
        rw [hX, if_pos rfl]
        refine ⟨hT.n, rfl, Or.inr (Or.inr (Or.inl ⟨rfl, by omega, by omega, ?_, rfl, rfl, rfl, by show _ + _ = _ + _; omega, fun hfu => (hf hfu).2⟩))⟩
        refine ⟨by show 4 ≤ St.n _; rw [hT.n]; exact h.n4, h.u1, ?_, ?_, rfl, hd0, h.dn, ?_, ?_, h.pos, h.top⟩
        · show Sound _ (H.use * (St.n _ / 2)) (St.n _ / 2) (H.J.l ++ [[116, 32] ++ r])
          rw [hT.n]
          exact hs0
        · show _ + _ = (frames (H.J.l ++ [[116, 32] ++ r])).length
          rw [frames_len_snoc, hlen]
        · show H.J.l ++ [[116, 32] ++ r] = halfR H.age H.sn (H.tl ++ [r])
          rw [halfR_snoc, h.l]
          rfl
        · show (halfL _ (1 - H.use)).1 < H.age
          rw [hoth]
          exact h.other
      · rw [if_neg (by rw [h16]; decide)] at hX
        rw [hX, if_neg (show ¬ _ = (0 : Int) by rw [h16]; decide), if_pos h16]
        refine ⟨hT.n, rfl, Or.inr (Or.inr (Or.inr ⟨rfl, fun hfu => ?_, rfl, ?_⟩))⟩
        · have := (hf hfu).1
          rw [h16] at this
          cases this
        · have hsc2 : IsScan (partB (appendS H.J.s (H.use * (H.J.s.n / 2)) (H.J.s.n / 2) (frames H.J.l).length (frameL ([116, 32] ++ r))).1 (H.use * ((appendS H.J.s (H.use * (H.J.s.n / 2)) (H.J.s.n / 2) (frames H.J.l).length (frameL ([116, 32] ++ r))).1.n / 2)) ((appendS H.J.s (H.use * (H.J.s.n / 2)) (H.J.s.n / 2) (frames H.J.l).length (frameL ([116, 32] ++ r))).1.n / 2)) m t := by rw [hT.n, hpart]; exact hsc
          have hn4 : 4 ≤ (appendS H.J.s (H.use * (H.J.s.n / 2)) (H.J.s.n / 2) (frames H.J.l).length (frameL ([116, 32] ++ r))).1.n := by rw [hT.n]; exact h.n4
          rcases hm with rfl | rfl
          · exact Or.inl ⟨hT.wf, hn4, h.u1, by rw [halfL_scan hsc2, h.l, read_half _ _ _ h.pos h.top], by rw [hoth]; exact h.other, h.pos, h.top⟩
          · exact Or.inr ⟨hT.wf, hn4, h.u1, by rw [halfL_scan hsc2, h.l, show [[116, 32] ++ r] = [tlB r] from rfl, ← halfR_snoc, read_half _ _ _ h.pos h.top], by rw [hoth]; exact h.other, h.pos, h.top⟩
end Go.Proofs.YtngcdkbnljoodaaGreatDoor

namespace Go.Proofs.YtngcdkbnljoodaaGreatDoor
set_option linter.unusedVariables false
set_option linter.unusedSimpArgs false
open Go.RowKit Go.Proofs.YtngcdkbnljoodaaGreatDoorW.PrintWords

theorem take_len_append (D rest : List Bs) : (D ++ rest).take D.length = D := by simp
structure AppsS (s s' : St) (pf nb : Nat) (L : List Bs) (A : JS) (c : Int) : Prop where
  away : Away s s' pf nb
  cases : (c = 0 ∧ Sound s' pf nb L ∧ A.l = L ∧ A.fin = (frames L).length ∧ A.o = false ∧ s'.down = false) ∨
    (c = 14 ∧ s'.down = false ∧ 32 * nb < (frames L).length ∧ ∃ q t, q < L.length ∧ IsScan (partB s' pf nb) (L.take q) t) ∨
    (c = 16 ∧ ∃ q t, q ≤ L.length ∧ IsScan (partB s' pf nb) (L.take q) t)
  fuse : s.fuse = -1 → c ≠ 16 ∧ s'.fuse = -1
theorem apps_spec {pf nb : Nat} : ∀ (rest D : List Bs) (A : JS), Sound A.s pf nb D → A.l = D → A.fin = (frames D).length → A.o = false → A.s.down = false → (∀ x ∈ rest, okR x) →
    AppsS A.s (JS.apps pf nb A rest).1.s pf nb (D ++ rest) (JS.apps pf nb A rest).1 (JS.apps pf nb A rest).2
  | [], D, A, hs, hl, hf, ho, hd, _ => by
    rw [List.append_nil]
    exact ⟨Away.refl hs.wf _ _, Or.inl ⟨rfl, hs, hl, hf, ho, hd⟩, fun h => ⟨by show (0 : Int) ≠ 16; decide, h⟩⟩
  | r :: t, D, A, hs, hl, hf, ho, hd, hok => by
    have hr : okR r := hok r (by simp)
    have hE : D ++ r :: t = (D ++ [r]) ++ t := by simp
    have hlen : (D ++ r :: t).length = D.length + t.length + 1 := by simp; omega
    obtain ⟨X, hX⟩ : ∃ X, X = A.app pf nb r := ⟨_, rfl⟩
    rw [JS.apps, ← hX]
    unfold JS.app at hX
    rw [if_neg (show ¬ (r.length = 0 ∨ 400 < r.length) by have := hr.1; have := hr.2; omega)] at hX
    by_cases hroom : 32 * nb < A.fin + (r.length + 8)
    · rw [if_pos hroom] at hX
      rw [hX, if_neg (show ¬ ((14 : Int) = 0) by decide)]
      refine ⟨Away.refl hs.wf _ _, Or.inr (Or.inl ⟨rfl, hd, ?_, D.length, _, by rw [hlen]; omega, by rw [take_len_append]; exact hs.scan⟩), fun h => ⟨by show (14 : Int) ≠ 16; decide, h⟩⟩
      rw [hE, frames_append, List.length_append, frames_len_snoc]
      omega
    · rw [if_neg hroom, if_neg (by rw [ho]; simp), hf] at hX
      obtain ⟨P, hP, hT, hc, hfu⟩ := append_ok hs hd hr (by omega)
      have ha := hT.away hs.wf hs.has hP
      have hpart := hT.part hs.wf hs.has hP
      rcases hc with ⟨h0, hs0, hd0⟩ | ⟨h16, hd16, m, u, hm, hsc⟩
      · rw [if_pos h0] at hX
        rw [hX, if_pos rfl]
        have ih := apps_spec t (D ++ [r]) ⟨(appendS A.s pf nb (frames D).length (frameL r)).1, A.l ++ [r], (frames D).length + (r.length + 8), false⟩ hs0 (by show A.l ++ [r] = _; rw [hl]) (by show _ = _; rw [frames_len_snoc]) rfl hd0 (fun x hx => hok x (by simp [hx]))
        rw [hE]
        exact ⟨ha.trans ih.away, ih.cases, fun h => ih.fuse (hfu h).2⟩
      · rw [if_neg (by rw [h16]; decide)] at hX
        rw [hX, if_neg (show ¬ _ = (0 : Int) by rw [h16]; decide)]
        refine ⟨ha, Or.inr (Or.inr ⟨h16, ?_⟩), fun h => ?_⟩
        · rcases hm with rfl | rfl
          · exact ⟨m.length, u, by rw [hlen]; omega, by rw [take_len_append]; show IsScan (partB _ pf nb) _ _; rw [hpart]; exact hsc⟩
          · refine ⟨(D ++ [r]).length, u, by rw [hlen]; simp, ?_⟩
            rw [hE, take_len_append]
            show IsScan (partB _ pf nb) _ _
            rw [hpart]
            exact hsc
        · have := (hfu h).1
          rw [h16] at this
          cases this
theorem getD_zs_append {c : Nat} (h : 0 < c) (t : Bs) : (zs c ++ t).getD 0 0 ≠ 1 := by
  obtain ⟨c, rfl⟩ : ∃ d, c = d + 1 := ⟨c - 1, by omega⟩
  unfold zs
  rw [List.replicate_succ]
  intro h
  have h0 : ((0 :: List.replicate c 0 ++ t : Bs)).getD 0 0 = 0 := rfl
  rw [h0] at h
  exact absurd h (by decide)
structure FreshS (s : St) (pf nb : Nat) (L : List Bs) (A : JS) (c : Int) : Prop where
  away : Away s A.s pf nb
  cases : (c = 0 ∧ Sound A.s pf nb L ∧ A.l = L ∧ A.fin = (frames L).length ∧ A.o = false ∧ A.s.down = false) ∨
    (c = 14 ∧ A.s.down = false ∧ 32 * nb < (frames L).length ∧ ∃ q t, q < L.length ∧ IsScan (partB A.s pf nb) (L.take q) t) ∨
    (c = 16 ∧ (partB A.s pf nb = partB s pf nb ∨ ∃ q t, q ≤ L.length ∧ IsScan (partB A.s pf nb) (L.take q) t))
  fuse : s.fuse = -1 → c ≠ 16 ∧ A.s.fuse = -1
theorem fresh_spec {s : St} (hs : s.Wf) {pf nb : Nat} (h : s.Has pf nb) (hd : s.down = false) (rs : List Bs) (hok : ∀ x ∈ rs, okR x) : FreshS s pf nb rs (freshS s pf nb rs).1 (freshS s pf nb rs).2 := by
  have hz : openAll (partB s pf nb) 0 = zs (32 * nb) := by unfold openAll; rw [List.take_zero, List.nil_append, partB_length hs h]; rfl
  obtain ⟨hc, hf⟩ := openS_spec hs h (Nat.zero_le (32 * nb))
  rw [hz] at hc
  unfold freshS
  rcases hc with ⟨h0, hT, hd0⟩ | ⟨h16, hd16, c, _, hcl, hT⟩
  · rw [if_neg (by rw [h0]; simp)]
    have ha := hT.away hs h (zs_length _)
    have hp := hT.part hs h (zs_length _)
    have hh : (openS s pf nb 0).1.Has pf nb := by unfold St.Has at h ⊢; rw [hT.n]; exact h
    have hsd : Sound (openS s pf nb 0).1 pf nb [] := ⟨hT.wf, hh, by simp, by rw [frames_nil]; exact Nat.zero_le _, by rw [hp, frames_nil]; rfl⟩
    have := apps_spec rs [] ⟨(openS s pf nb 0).1, [], 0, false⟩ hsd rfl rfl rfl (by rw [hd0]; exact hd) hok
    rw [List.nil_append] at this
    refine ⟨ha.trans this.away, ?_, fun hfu => this.fuse (hf hd hfu).2.1⟩
    rcases this.cases with h1 | h1 | ⟨h1, h2⟩
    · exact Or.inl h1
    · exact Or.inr (Or.inl h1)
    · exact Or.inr (Or.inr ⟨h1, Or.inr h2⟩)
  · rw [if_pos (by rw [h16]; decide)]
    have hPl : ((zs (32 * nb)).take c ++ (partB s pf nb).drop c).length = 32 * nb := by
      rw [List.length_append, List.length_take, List.length_drop, zs_length, partB_length hs h]; omega
    have ha := hT.away hs h hPl
    have hp := hT.part hs h hPl
    refine ⟨ha, Or.inr (Or.inr ⟨h16, ?_⟩), fun hfu => ?_⟩
    · by_cases hc0 : c = 0
      · subst hc0
        left
        show partB (openS s pf nb 0).1 pf nb = _
        rw [hp, List.take_zero, List.nil_append, List.drop_zero]
      · right
        refine ⟨0, (zs (32 * nb)).take c ++ (partB s pf nb).drop c, Nat.zero_le _, ?_⟩
        show IsScan (partB (openS s pf nb 0).1 pf nb) [] _
        rw [hp]
        refine ⟨rfl, by simp, oneL_first ?_⟩
        rw [zs_take _ _ hcl]
        exact getD_zs_append (by omega) _
    · have := (hf hd hfu).1
      rw [h16] at this
      cases this
theorem recs_ok (a : Int) (sn : List Bs) (h1 : 1 ≤ a) (h2 : a ≤ 999999999999999999) (hw : wideL sn = false) : ∀ x ∈ recsL a sn, okR x := by
  intro x hx
  unfold recsL at hx
  simp only [List.cons_append, List.mem_cons, List.mem_append, List.mem_map, List.not_mem_nil, or_false] at hx
  rcases hx with rfl | ⟨y, hy, rfl⟩ | rfl
  · have := itoa_len a (by omega) (by omega)
    unfold ageB okR
    rw [List.length_append]
    simp
    omega
  · unfold wideL at hw
    rw [List.any_eq_false] at hw
    have := hw y hy
    simp at this
    unfold snB okR
    rw [List.length_append]
    simp
    omega
  · decide
/-- A snapshot. -/
theorem fit_compact {H : HT} (h : Fit H) (sn : List Bs) : (H.compact sn).1.J.s.n = H.J.s.n ∧ (H.J.s.fuse = -1 → (H.compact sn).1.J.s.fuse = -1) ∧
    (((H.compact sn).2 = 3 ∧ wideL sn = true ∧ (H.compact sn).1 = H) ∨ ((H.compact sn).2 = 4 ∧ 999999999999999999 ≤ H.age ∧ (H.compact sn).1 = H) ∨
      ((H.compact sn).2 = 0 ∧ wideL sn = false ∧ Fit (H.compact sn).1 ∧ (H.compact sn).1.age = H.age + 1 ∧ (H.compact sn).1.sn = sn ∧ (H.compact sn).1.tl = [] ∧ (H.compact sn).1.J.fin = (frames (recsL (H.age + 1) sn)).length ∧ (frames (recsL (H.age + 1) sn)).length ≤ 32 * (H.J.s.n / 2)) ∨
      ((H.compact sn).2 = 14 ∧ wideL sn = false ∧ 32 * (H.J.s.n / 2) < (frames (recsL (H.age + 1) sn)).length ∧ Fit (H.compact sn).1 ∧ (H.compact sn).1.age = H.age ∧ (H.compact sn).1.sn = H.sn ∧ (H.compact sn).1.tl = H.tl ∧ (H.compact sn).1.J.fin = H.J.fin) ∨
      ((H.compact sn).2 = 16 ∧ H.J.s.fuse ≠ -1 ∧ (H.compact sn).1.down = true ∧ (Tells (H.compact sn).1.J.s H.use (H.age, H.sn, H.tl) ∨ Tells (H.compact sn).1.J.s (1 - H.use) (H.age + 1, sn, [])))) := by
  unfold HT.compact
  by_cases hw : wideL sn = true
  · rw [if_pos hw]
    exact ⟨rfl, id, Or.inl ⟨rfl, hw, rfl⟩⟩
  · have hwf : wideL sn = false := by cases e : wideL sn; rfl; exact absurd e hw
    rw [if_neg hw]
    by_cases hag : 999999999999999999 ≤ H.age
    · rw [if_pos hag]
      exact ⟨rfl, id, Or.inr (Or.inl ⟨rfl, hag, rfl⟩)⟩
    · have hp := h.pos
      rw [if_neg hag, if_neg (by rw [h.dn]; simp)]
      have hhas : H.J.s.Has ((1 - H.use) * (H.J.s.n / 2)) (H.J.s.n / 2) := half_has (by omega) h.n4
      have hF := fresh_spec h.sd.wf hhas h.up (recsL (H.age + 1) sn) (recs_ok _ _ (by omega) (by omega) hwf)
      generalize freshS H.J.s ((1 - H.use) * (H.J.s.n / 2)) (H.J.s.n / 2) (recsL (H.age + 1) sn) = F at *
      obtain ⟨A, c⟩ := F
      simp only at hF ⊢
      have hu := h.u1
      have hn := hF.away.n
      have hown : partB A.s (H.use * (H.J.s.n / 2)) (H.J.s.n / 2) = partB H.J.s (H.use * (H.J.s.n / 2)) (H.J.s.n / 2) := hF.away.other _ _ (half_has hu h.n4) (by have := half_apart (s := H.J.s) (u := H.use) hu; rcases this with e | e; exact Or.inl e; exact Or.inr e)
      have hoh : halfL A.s H.use = (H.age, H.sn, H.tl) := (halfL_congr hn hown).trans h.tells.at_
      have hother : ∀ m t, IsScan (partB A.s ((1 - H.use) * (H.J.s.n / 2)) (H.J.s.n / 2)) m t → halfL A.s (1 - H.use) = readL m := fun m t hsc => halfL_scan (t := t) (by rw [hn]; exact hsc)
      have h11 : 1 - (1 - H.use) = H.use := by omega
      rcases hF.cases with ⟨rfl, hsd, hl, hfin, ho, hd⟩ | ⟨rfl, hd, hbig, q, t, hq, hsc⟩ | ⟨rfl, hor⟩
      · rw [if_pos rfl]
        refine ⟨hn, fun hfu => (hF.fuse hfu).2, Or.inr (Or.inr (Or.inl ⟨rfl, hwf, ⟨by show 4 ≤ A.s.n; rw [hn]; exact h.n4, by show 1 - H.use ≤ 1; omega, ?_, ?_, ho, hd, h.dn, ?_, ?_, by show 1 ≤ H.age + 1; omega, by show H.age + 1 ≤ _; omega⟩, rfl, rfl, rfl, hfin, hsd.fits⟩))⟩
        · show Sound A.s ((1 - H.use) * (A.s.n / 2)) (A.s.n / 2) A.l
          rw [hn, hl]
          exact hsd
        · show A.fin = (frames A.l).length
          rw [hfin, hl]
        · show A.l = halfR (H.age + 1) sn []
          rw [hl]
          unfold halfR
          rw [List.map_nil, List.append_nil]
        · show (halfL A.s (1 - (1 - H.use))).1 < H.age + 1
          rw [h11, hoh]
          show H.age < H.age + 1
          omega
      · rw [if_neg (show ¬ ((14 : Int) = 0) by decide)]
        refine ⟨hn, fun hfu => (hF.fuse hfu).2, Or.inr (Or.inr (Or.inr (Or.inl ⟨rfl, hwf, hbig, ⟨by show 4 ≤ A.s.n; rw [hn]; exact h.n4, hu, ?_, h.fin, h.o, hd, rfl, h.l, ?_, hp, h.top⟩, rfl, rfl, rfl, rfl⟩)))⟩
        · show Sound A.s (H.use * (A.s.n / 2)) (A.s.n / 2) H.J.l
          have hsd := h.sd
          have hhas2 := hsd.has
          rw [hn]
          exact ⟨hF.away.wf, by unfold St.Has at hhas2 ⊢; rw [hn]; exact hhas2, hsd.ok, hsd.fits, by rw [hown]; exact hsd.eq⟩
        · show (halfL A.s (1 - H.use)).1 < H.age
          rw [hother _ _ hsc, read_short _ _ _ hq]
          show 0 < H.age
          omega
      · rw [if_neg (show ¬ ((16 : Int) = 0) by decide)]
        refine ⟨hn, fun hfu => (hF.fuse hfu).2, Or.inr (Or.inr (Or.inr (Or.inr ⟨rfl, fun hfu => (hF.fuse hfu).1 rfl, rfl, ?_⟩)))⟩
        have hn4 : 4 ≤ A.s.n := by rw [hn]; exact h.n4
        rcases hor with hsame | ⟨q, t, hq, hsc⟩
        · left
          exact ⟨hF.away.wf, hn4, hu, hoh, by rw [halfL_congr hn hsame]; exact h.other, hp, h.top⟩
        · by_cases hql : q < (recsL (H.age + 1) sn).length
          · left
            refine ⟨hF.away.wf, hn4, hu, hoh, ?_, hp, h.top⟩
            show (halfL A.s (1 - H.use)).1 < H.age
            rw [hother _ _ hsc, read_short _ _ _ hql]
            show 0 < H.age
            omega
          · right
            rw [List.take_of_length_le (by omega)] at hsc
            have hr := read_half (H.age + 1) sn [] (by omega) (by omega)
            unfold halfR at hr
            rw [List.map_nil, List.append_nil] at hr
            refine ⟨hF.away.wf, hn4, by omega, by rw [hother _ _ hsc, hr], ?_, by show 1 ≤ H.age + 1; omega, by show H.age + 1 ≤ _; omega⟩
            show (halfL A.s (1 - (1 - H.use))).1 < H.age + 1
            rw [h11, hoh]
            show H.age < H.age + 1
            omega
theorem has_pre {r : Bs} {a b : UInt8} (h : Lib.hasPrefix r [a, b] = true) : r = [a, b] ++ r.drop 2 := by
  obtain ⟨t, ht⟩ := List.isPrefixOf_iff_prefix.1 h
  rw [← ht]
  rfl
theorem body_inv2 : ∀ (l : List Bs) (sn b : List Bs) {sn' tl : List Bs}, bodyL l true sn b = some (sn', tl) → sn' = sn ∧ ∃ tl', tl = b ++ tl' ∧ l = tl'.map tlB
  | [], sn, b, sn', tl, h => by
    unfold bodyL at h
    rw [if_pos rfl] at h
    cases h
    exact ⟨rfl, [], by simp, rfl⟩
  | r :: t, sn, b, sn', tl, h => by
    unfold bodyL at h
    rw [if_neg (by rintro ⟨h, _⟩; cases h), if_neg (by rintro ⟨h, _⟩; cases h)] at h
    split at h
    · rename_i hp
      obtain ⟨h1, tl', h2, h3⟩ := body_inv2 t sn _ h
      refine ⟨h1, r.drop 2 :: tl', by rw [h2]; simp, ?_⟩
      rw [List.map_cons, ← h3]
      congr 1
      exact has_pre hp.2
    · cases h
theorem body_inv : ∀ (l : List Bs) (a : List Bs) {sn tl : List Bs}, bodyL l false a [] = some (sn, tl) → ∃ sn', sn = a ++ sn' ∧ l = sn'.map snB ++ [liveB] ++ tl.map tlB
  | [], a, sn, tl, h => by
    unfold bodyL at h
    rw [if_neg (by simp)] at h
    cases h
  | r :: t, a, sn, tl, h => by
    unfold bodyL at h
    split at h
    · rename_i hp
      obtain ⟨h1, tl', h2, h3⟩ := body_inv2 t a [] h
      refine ⟨[], by rw [h1]; simp, ?_⟩
      rw [h3, h2, hp.2]
      simp
    · split at h
      · rename_i hp
        obtain ⟨sn', h1, h2⟩ := body_inv t _ h
        refine ⟨r.drop 2 :: sn', by rw [h1]; simp, ?_⟩
        rw [List.map_cons, List.cons_append, List.cons_append, ← h2]
        congr 1
        exact has_pre hp.2
      · split at h
        · rename_i hp
          exact absurd hp.1 (by decide)
        · cases h
theorem age_inv {r : Bs} (h : ageL r ≠ 0) : r = ageB (ageL r) := by
  unfold ageL at h ⊢
  split at h
  · rename_i hp
    rw [if_pos hp]
    split at h
    · rename_i v hv
      split at h
      · rename_i hc
        simp only [hv, if_pos hc]
        unfold ageB
        rw [hc.2.2]
        exact has_pre hp
      · exact absurd rfl h
    · exact absurd rfl h
  · exact absurd rfl h
theorem read_inv {l : List Bs} (h : (readL l).1 ≠ 0) : l = halfR (readL l).1 (readL l).2.1 (readL l).2.2 := by
  cases l with
  | nil => exact absurd rfl h
  | cons r t =>
    rw [readL_cons] at h ⊢
    by_cases h1 : ageL r = 0
    · rw [if_pos h1] at h; exact absurd rfl h
    · rw [if_neg h1] at h ⊢
      cases hb : bodyL t false [] [] with
      | none => rw [hb] at h; exact absurd rfl h
      | some x =>
        obtain ⟨sn, tl⟩ := x
        obtain ⟨sn', h2, h3⟩ := body_inv t [] hb
        rw [List.nil_append] at h2
        subst h2
        show r :: t = halfR (ageL r) sn tl
        unfold halfR recsL
        rw [List.cons_append, List.cons_append, ← h3, ← age_inv h1]
/-- An opening. -/
theorem tells_open {s : St} {u : Nat} {X : Int × List Bs × List Bs} (h : Tells s u X) (hd : s.down = false) : Tells (openH s).1.J.s u X ∧ (s.fuse = -1 → (openH s).2 = 0 ∧ (openH s).1.J.s.fuse = -1) ∧
    ((openH s).2 = 0 → Fit (openH s).1 ∧ (openH s).1.use = u ∧ (openH s).1.age = X.1 ∧ (openH s).1.sn = X.2.1 ∧ (openH s).1.tl = X.2.2) := by
  have hhas : s.Has (u * (s.n / 2)) (s.n / 2) := half_has h.u1 h.n4
  obtain ⟨t, ht⟩ := scanL_is (partB s (u * (s.n / 2)) (s.n / 2))
  obtain ⟨P, hP, hT, hc, hf⟩ := open_ok h.wf hhas ht
  have ha := hT.away h.wf hhas hP
  have hpart := hT.part h.wf hhas hP
  have hoth := oth_half h.u1 h.n4 ha
  have hown : halfL (openS s (u * (s.n / 2)) (s.n / 2) (frames (scanL (partB s (u * (s.n / 2)) (s.n / 2)))).length).1 u = X := by
    have : ∃ t', IsScan P (scanL (partB s (u * (s.n / 2)) (s.n / 2))) t' := by
      rcases hc with ⟨_, hs0, _⟩ | ⟨_, _, t', h'⟩
      · exact ⟨_, by have := hs0.scan; rw [hpart] at this; exact this⟩
      · exact ⟨t', h'⟩
    obtain ⟨t', h'⟩ := this
    rw [halfL_scan (t := t') (l := scanL (partB s (u * (s.n / 2)) (s.n / 2))) (by rw [hT.n, hpart]; exact h'), ← h.at_]
    rfl
  have hne : (halfL s u).1 ≠ 0 := by rw [h.at_]; have := h.pos; omega
  have hO : openH s = (⟨⟨(openS s (u * (s.n / 2)) (s.n / 2) (frames (scanL (partB s (u * (s.n / 2)) (s.n / 2)))).length).1, scanL (partB s (u * (s.n / 2)) (s.n / 2)), (frames (scanL (partB s (u * (s.n / 2)) (s.n / 2)))).length, false⟩,
      u, (halfL s u).1, (halfL s u).2.1, (halfL s u).2.2, false⟩, (openS s (u * (s.n / 2)) (s.n / 2) (frames (scanL (partB s (u * (s.n / 2)) (s.n / 2)))).length).2) := by
    unfold openH
    rw [h.use, if_neg hne]
  rw [hO]
  refine ⟨⟨hT.wf, by show 4 ≤ St.n _; rw [hT.n]; exact h.n4, h.u1, hown, by rw [hoth]; exact h.other, h.pos, h.top⟩, fun hfu => hf hd hfu, fun h0 => ?_⟩
  rcases hc with ⟨_, hs0, hd0⟩ | ⟨h16, _⟩
  · refine ⟨⟨by show 4 ≤ St.n _; rw [hT.n]; exact h.n4, h.u1, ?_, rfl, rfl, hd0.trans hd, rfl, ?_, ?_, ?_, ?_⟩, rfl, by show (halfL s u).1 = _; rw [h.at_], by show (halfL s u).2.1 = _; rw [h.at_], by show (halfL s u).2.2 = _; rw [h.at_]⟩
    · show Sound _ (u * (St.n _ / 2)) (St.n _ / 2) _
      rw [hT.n]
      exact hs0
    · exact read_inv hne
    · show (halfL _ (1 - u)).1 < (halfL s u).1
      rw [hoth, h.at_]
      exact h.other
    · show 1 ≤ (halfL s u).1
      rw [h.at_]
      exact h.pos
    · show (halfL s u).1 ≤ _
      rw [h.at_]
      exact h.top
  · simp only at h0
    rw [h16] at h0
    cases h0
end Go.Proofs.YtngcdkbnljoodaaGreatDoor

namespace Go.Proofs.YtngcdkbnljoodaaGreatDoor
set_option linter.unusedVariables false
set_option linter.unusedSimpArgs false
open Go.RowKit Go.Proofs.YtngcdkbnljoodaaGreatDoorW.PrintWords

theorem write_cnt {s : St} (i : Int) (d : Bs) (hf : 0 ≤ s.fuse) (h0 : (s.write i d).2 = 0) : 0 ≤ (s.write i d).1.fuse ∧ (s.write i d).1.fuse + 1 = s.fuse := by
  unfold St.write at h0 ⊢
  by_cases h1 : s.may i ≠ 0
  · rw [if_pos h1] at h0
    exact absurd h0 h1
  · rw [if_neg h1] at h0 ⊢
    by_cases h2 : d.length ≠ 32
    · rw [if_pos h2] at h0
      cases h0
    · rw [if_neg h2] at h0 ⊢
      by_cases h3 : s.fuse = 0
      · rw [if_pos h3] at h0
        cases h0
      · rw [if_neg h3]
        show 0 ≤ max (s.fuse - 1) (-1) ∧ max (s.fuse - 1) (-1) + 1 = s.fuse
        omega
theorem put_cnt (pf : Nat) (all was : Bs) (must : Bool) : ∀ (k i : Nat) (s : St), 0 ≤ s.fuse → (putL pf all was must k i s).2 = 0 → 0 ≤ (putL pf all was must k i s).1.fuse ∧ (putL pf all was must k i s).1.fuse ≤ s.fuse ∧ (must = true → (putL pf all was must k i s).1.fuse + k ≤ s.fuse)
  | 0, i, s, h, _ => ⟨h, Int.le_refl _, fun _ => by show s.fuse + ((0 : Nat) : Int) ≤ s.fuse; simp⟩
  | k + 1, i, s, h, h0 => by
    rw [putL] at h0 ⊢
    by_cases h1 : must = false ∧ blk all i = blk was i
    · rw [if_pos h1] at h0 ⊢
      obtain ⟨a, c, _⟩ := put_cnt pf all was must k (i + 1) s h h0
      exact ⟨a, c, fun hm => by rw [h1.1] at hm; cases hm⟩
    · rw [if_neg h1] at h0 ⊢
      by_cases h2 : (s.write ((pf + i : Nat) : Int) (blk all i)).2 ≠ 0
      · rw [if_pos h2] at h0
        exact absurd h0 h2
      · rw [if_neg h2] at h0 ⊢
        have h3 : (s.write ((pf + i : Nat) : Int) (blk all i)).2 = 0 := by
          by_cases e : (s.write ((pf + i : Nat) : Int) (blk all i)).2 = 0
          · exact e
          · exact absurd e h2
        obtain ⟨a, c⟩ := write_cnt _ _ h h3
        obtain ⟨a2, c2, d2⟩ := put_cnt pf all was must k (i + 1) _ a h0
        refine ⟨a2, by omega, fun hm => ?_⟩
        have := d2 hm
        rw [show ((k + 1 : Nat) : Int) = (k : Int) + 1 from rfl]
        omega
theorem append_cnt {s : St} {pf nb fin : Nat} {f : Bs} (h1 : 1 ≤ f.length) (h : 0 ≤ s.fuse) (h0 : (appendS s pf nb fin f).2 = 0) : 0 ≤ (appendS s pf nb fin f).1.fuse ∧ (appendS s pf nb fin f).1.fuse + 1 ≤ s.fuse := by
  unfold appendS at h0 ⊢
  obtain ⟨a, _, c⟩ := put_cnt _ _ _ _ _ _ _ h h0
  have := c rfl
  exact ⟨a, by omega⟩
theorem apps_cnt {pf nb : Nat} : ∀ (rest D : List Bs) (A : JS), Sound A.s pf nb D → A.l = D → A.fin = (frames D).length → A.o = false → A.s.down = false → (∀ x ∈ rest, okR x) → 0 ≤ A.s.fuse →
    ((JS.apps pf nb A rest).2 = 0 → (rest.length : Int) ≤ A.s.fuse) ∧
    ((JS.apps pf nb A rest).2 = 16 → ∃ (q : Nat) (t : Bs), (q : Int) ≤ D.length + A.s.fuse + 1 ∧ IsScan (partB (JS.apps pf nb A rest).1.s pf nb) ((D ++ rest).take q) t)
  | [], D, A, hs, hl, hf, ho, hd, _, h0 => ⟨fun _ => by simpa using h0, fun h => by rw [JS.apps] at h; cases h⟩
  | r :: t, D, A, hs, hl, hf, ho, hd, hok, hfu => by
    have hr : okR r := hok r (by simp)
    have hE : D ++ r :: t = (D ++ [r]) ++ t := by simp
    obtain ⟨X, hX⟩ : ∃ X, X = A.app pf nb r := ⟨_, rfl⟩
    rw [JS.apps, ← hX]
    unfold JS.app at hX
    rw [if_neg (show ¬ (r.length = 0 ∨ 400 < r.length) by have := hr.1; have := hr.2; omega)] at hX
    by_cases hroom : 32 * nb < A.fin + (r.length + 8)
    · rw [if_pos hroom] at hX
      rw [hX, if_neg (show ¬ ((14 : Int) = 0) by decide)]
      exact ⟨fun h => (by cases h), fun h => (by cases h)⟩
    · rw [if_neg hroom, if_neg (by rw [ho]; simp), hf] at hX
      obtain ⟨P, hP, hT, hc, _⟩ := append_ok hs hd hr (by omega)
      have hpart := hT.part hs.wf hs.has hP
      rcases hc with ⟨h0, hs0, hd0⟩ | ⟨h16, hd16, m, u, hm, hsc⟩
      · rw [if_pos h0] at hX
        rw [hX, if_pos rfl]
        have hcnt := append_cnt (f := frameL r) (by rw [frameL_length]; omega) hfu h0
        have ih := apps_cnt t (D ++ [r]) ⟨(appendS A.s pf nb (frames D).length (frameL r)).1, A.l ++ [r], (frames D).length + (r.length + 8), false⟩ hs0 (by show A.l ++ [r] = _; rw [hl]) (by show _ = _; rw [frames_len_snoc]) rfl hd0 (fun x hx => hok x (by simp [hx])) hcnt.1
        rw [hE]
        have hle : ((D ++ [r]).length : Int) = D.length + 1 := by simp
        refine ⟨fun h => ?_, fun h => ?_⟩
        · have := ih.1 h
          simp only [List.length_cons]
          push_cast
          have h2 := hcnt.2
          simp only at this
          omega
        · obtain ⟨q, v, h1, h2⟩ := ih.2 h
          refine ⟨q, v, ?_, h2⟩
          simp only at h1
          have h3 := hcnt.2
          omega
      · rw [if_neg (by rw [h16]; decide)] at hX
        rw [hX, if_neg (show ¬ _ = (0 : Int) by rw [h16]; decide)]
        refine ⟨fun h => (by simp only at h; rw [h16] at h; cases h), fun _ => ?_⟩
        rcases hm with rfl | rfl
        · exact ⟨m.length, u, by omega, by rw [take_len_append]; show IsScan (partB _ pf nb) _ _; rw [hpart]; exact hsc⟩
        · refine ⟨(D ++ [r]).length, u, by simp; omega, ?_⟩
          rw [hE, take_len_append]
          show IsScan (partB _ pf nb) _ _
          rw [hpart]
          exact hsc
theorem fresh_cnt {s : St} (hs : s.Wf) {pf nb : Nat} (h : s.Has pf nb) (hd : s.down = false) (rs : List Bs) (hok : ∀ x ∈ rs, okR x) (hfu : 0 ≤ s.fuse) :
    ((freshS s pf nb rs).2 = 0 → (rs.length : Int) ≤ s.fuse) ∧
    ((freshS s pf nb rs).2 = 16 → partB (freshS s pf nb rs).1.s pf nb = partB s pf nb ∨ ∃ (q : Nat) (t : Bs), (q : Int) ≤ s.fuse + 1 ∧ IsScan (partB (freshS s pf nb rs).1.s pf nb) (rs.take q) t) := by
  have hz : openAll (partB s pf nb) 0 = zs (32 * nb) := by unfold openAll; rw [List.take_zero, List.nil_append, partB_length hs h]; rfl
  obtain ⟨hc, hf⟩ := openS_spec hs h (Nat.zero_le (32 * nb))
  rw [hz] at hc
  unfold freshS
  rcases hc with ⟨h0, hT, hd0⟩ | ⟨h16, hd16, c, _, hcl, hT⟩
  · rw [if_neg (by rw [h0]; simp)]
    have hp := hT.part hs h (zs_length _)
    have hh : (openS s pf nb 0).1.Has pf nb := by unfold St.Has at h ⊢; rw [hT.n]; exact h
    have hsd : Sound (openS s pf nb 0).1 pf nb [] := ⟨hT.wf, hh, by simp, by rw [frames_nil]; exact Nat.zero_le _, by rw [hp, frames_nil]; rfl⟩
    have hcn : 0 ≤ (openS s pf nb 0).1.fuse ∧ (openS s pf nb 0).1.fuse ≤ s.fuse := by
      have h0' := h0
      unfold openS at h0' ⊢
      have := put_cnt _ _ _ _ _ _ _ hfu h0'
      exact ⟨this.1, this.2.1⟩
    have := apps_cnt rs [] ⟨(openS s pf nb 0).1, [], 0, false⟩ hsd rfl rfl rfl (by rw [hd0]; exact hd) hok hcn.1
    rw [List.nil_append] at this
    refine ⟨fun h => ?_, fun h => ?_⟩
    · have h2 := this.1 h
      simp only at h2
      have := hcn.2
      omega
    · obtain ⟨q, t, h1, h2⟩ := this.2 h
      refine Or.inr ⟨q, t, ?_, h2⟩
      have h3 := hcn.2
      simp only [List.length_nil] at h1
      omega
  · rw [if_pos (by rw [h16]; decide)]
    refine ⟨fun h => (by simp only at h; rw [h16] at h; cases h), fun _ => ?_⟩
    have hPl : ((zs (32 * nb)).take c ++ (partB s pf nb).drop c).length = 32 * nb := by
      rw [List.length_append, List.length_take, List.length_drop, zs_length, partB_length hs h]; omega
    have hp := hT.part hs h hPl
    by_cases hc0 : c = 0
    · subst hc0
      left
      show partB (openS s pf nb 0).1 pf nb = _
      rw [hp, List.take_zero, List.nil_append, List.drop_zero]
    · right
      refine ⟨0, (zs (32 * nb)).take c ++ (partB s pf nb).drop c, by omega, ?_⟩
      show IsScan (partB (openS s pf nb 0).1 pf nb) [] _
      rw [hp]
      refine ⟨rfl, by simp, oneL_first ?_⟩
      rw [zs_take _ _ hcl]
      exact getD_zs_append (by omega) _
theorem Fit.setFuse {H : HT} (h : Fit H) (a b : Int) (ha : a ≤ 9223372036854775807) : Fit { H with J := { H.J with s := H.J.s.setFuse a b } } :=
  ⟨h.n4, h.u1, h.sd.setFuse a b ha, h.fin, h.o, h.up, h.dn, h.l, by show (halfL (H.J.s.setFuse a b) (1 - H.use)).1 < H.age; rw [halfL_bs (s := H.J.s) (s' := H.J.s.setFuse a b) rfl rfl (1 - H.use)]; exact h.other, h.pos, h.top⟩
/-- A snapshot whose writing is cut off early. -/
theorem compact_torn {H : HT} (h : Fit H) (sn : List Bs) (hw : wideL sn = false) (ha : H.age < 999999999999999999) (hfit : (frames (recsL (H.age + 1) sn)).length ≤ 32 * (H.J.s.n / 2)) (h0 : 0 ≤ H.J.s.fuse) (hf : H.J.s.fuse + 1 < (recsL (H.age + 1) sn).length) :
    (H.compact sn).2 = 16 ∧ (H.compact sn).1.down = true ∧ Tells (H.compact sn).1.J.s H.use (H.age, H.sn, H.tl) ∧ (H.compact sn).1.age = H.age ∧ (H.compact sn).1.sn = H.sn ∧ (H.compact sn).1.tl = H.tl ∧ (H.compact sn).1.J.s.n = H.J.s.n := by
  obtain ⟨hn, hfu, hc⟩ := fit_compact h sn
  have hp := h.pos
  have hhas : H.J.s.Has ((1 - H.use) * (H.J.s.n / 2)) (H.J.s.n / 2) := half_has (by omega) h.n4
  obtain ⟨c1, c2⟩ := fresh_cnt h.sd.wf hhas h.up (recsL (H.age + 1) sn) (recs_ok _ _ (by omega) (by omega) hw) h0
  have hk : (H.compact sn).2 = (freshS H.J.s ((1 - H.use) * (H.J.s.n / 2)) (H.J.s.n / 2) (recsL (H.age + 1) sn)).2 ∧ ((H.compact sn).2 ≠ 0 → (H.compact sn).1.J.s = (freshS H.J.s ((1 - H.use) * (H.J.s.n / 2)) (H.J.s.n / 2) (recsL (H.age + 1) sn)).1.s ∧ (H.compact sn).1.age = H.age ∧ (H.compact sn).1.sn = H.sn ∧ (H.compact sn).1.tl = H.tl) := by
    unfold HT.compact
    rw [if_neg (by rw [hw]; simp), if_neg (by omega), if_neg (by rw [h.dn]; simp)]
    split
    · rename_i e
      exact ⟨e.symm, fun h => absurd rfl h⟩
    · exact ⟨rfl, fun _ => ⟨rfl, rfl, rfl, rfl⟩⟩
  rcases hc with ⟨_, h1, _⟩ | ⟨_, h1, _⟩ | ⟨h1, _⟩ | ⟨_, _, h1, _⟩ | ⟨h1, h2, h3, h4⟩
  · rw [hw] at h1; cases h1
  · omega
  · have := c1 (hk.1 ▸ h1)
    omega
  · omega
  · refine ⟨h1, h3, ?_, (hk.2 (by rw [h1]; decide)).2.1, (hk.2 (by rw [h1]; decide)).2.2.1, (hk.2 (by rw [h1]; decide)).2.2.2, hn⟩
    rcases h4 with h4 | h4
    · exact h4
    · exfalso
      have hu := h.u1
      have hsc : halfL (H.compact sn).1.J.s (1 - H.use) = (H.age + 1, sn, []) := h4.at_
      have heq := (hk.2 (by rw [h1]; decide)).1
      rcases c2 (hk.1 ▸ h1) with e | ⟨q, t, hq, hs⟩
      · rw [← heq] at e
        have h5 : halfL (H.compact sn).1.J.s (1 - H.use) = halfL H.J.s (1 - H.use) := halfL_congr hn e
        have h6 := h.other
        rw [← h5, hsc] at h6
        simp only at h6
        omega
      · rw [← heq] at hs
        have h5 : halfL (H.compact sn).1.J.s (1 - H.use) = readL ((recsL (H.age + 1) sn).take q) := halfL_scan (t := t) (by rw [hn]; exact hs)
        rw [read_short _ _ _ (by omega), hsc] at h5
        simp only [Prod.mk.injEq] at h5
        omega
/-- The halves of a new store. -/
theorem fit_new (n : Nat) (h4 : 4 ≤ n) (h256 : n ≤ 256) : (openH (St.new n)).2 = 0 ∧ Fit (openH (St.new n)).1 ∧ (openH (St.new n)).1.age = 1 ∧ (openH (St.new n)).1.sn = [] ∧ (openH (St.new n)).1.tl = [] ∧ (openH (St.new n)).1.J.fin = 23 ∧ (openH (St.new n)).1.J.s.fuse = -1 ∧ (openH (St.new n)).1.J.s.n = n ∧ (openH (St.new n)).1.use = 0 := by
  have hwf := St.new_wf (n := n) (by omega) h256
  have hhas : ∀ k, k ≤ 1 → (St.new n).Has (k * (n / 2)) (n / 2) := fun k hk => half_has (s := St.new n) hk h4
  have hz : ∀ k, k ≤ 1 → halfL (St.new n) k = (0, [], []) := fun k hk => by
    have hp : partB (St.new n) (k * (n / 2)) (n / 2) = zs (32 * (n / 2)) := part_new (hhas k hk)
    rw [halfL_scan (s := St.new n) (k := k) (l := []) (t := zs (32 * (n / 2))) ⟨by show partB (St.new n) (k * (n / 2)) (n / 2) = _; rw [hp]; rfl, by simp, oneL_zs _⟩]
    rfl
  have hu : openU (St.new n) = 0 := by unfold openU; rw [hz 0 (by omega), hz 1 (by omega)]; rfl
  have hO : openH (St.new n) = (⟨(freshS (St.new n) 0 (n / 2) [g1B, liveB]).1, 0, 1, [], [], false⟩, (freshS (St.new n) 0 (n / 2) [g1B, liveB]).2) := by
    unfold openH
    rw [hu, if_pos (by rw [hz 0 (by omega)])]
    rfl
  rw [hO]
  have hh := hhas 0 (by omega)
  rw [Nat.zero_mul] at hh
  have hF := fresh_spec hwf hh rfl [g1B, liveB] (by intro x hx; simp at hx; rcases hx with rfl | rfl <;> decide)
  obtain ⟨c16, hfu⟩ := hF.fuse rfl
  have hlen : (frames [g1B, liveB]).length = 23 := by decide
  rcases hF.cases with ⟨h0, hsd, hl, hfin, ho, hd⟩ | ⟨_, _, h14, _⟩ | ⟨h16, _⟩
  · refine ⟨h0, ⟨by show 4 ≤ St.n _; rw [hF.away.n]; exact h4, by show 0 ≤ 1; omega, ?_, by show _ = _; rw [hfin, hl], ho, hd, rfl, ?_, ?_, by show (1 : Int) ≤ 1; omega, by show (1 : Int) ≤ 999999999999999999; omega⟩, rfl, rfl, rfl, by show _ = 23; rw [hfin, hlen], hfu, hF.away.n, rfl⟩
    · show Sound _ (0 * (St.n _ / 2)) (St.n _ / 2) _
      rw [Nat.zero_mul, hF.away.n, hl]
      exact hsd
    · show JS.l _ = _
      rw [hl]
      show [g1B, liveB] = halfR 1 [] []
      have h1 : Lib.itoa 1 = [49] := by
        unfold Lib.itoa
        rw [if_neg (by omega)]
        simp [Lib.decDigits]
      unfold halfR recsL ageB
      rw [h1]
      rfl
    · show (halfL _ (1 - 0)).1 < 1
      rw [oth_half (s := St.new n) (u := 0) (by omega) h4 (by rw [Nat.zero_mul]; exact hF.away), hz 1 (by omega)]
      show (0 : Int) < 1
      omega
  · rw [hlen] at h14; omega
  · exact absurd h16 c16
/-- Halves whose store was turned by others. -/
theorem HalIs.other {S : List Nat} {w w' : World} {B : HB} {p b : Nat} {H : HT} (h : HalIs w B p b H) (ho : Only S w w') (hS : ∀ x, x ∈ B.own → x ∉ S) {s' : St} (hs : StoreIs w' p b s') (hn : s'.n = H.J.s.n) : HalIs w' B p b { H with J := { H.J with s := s' } } := by
  obtain ⟨vs, vt, hbl, hr, h1, h2⟩ := h.ex
  unfold HB.own at hS
  simp only [List.mem_append, List.mem_cons, List.not_mem_nil, or_false, Option.mem_toList, Option.mem_def] at hS
  have hk := h.ok
  refine ⟨hs, by show 4 ≤ s'.n; rw [hn]; exact h.n4, h.u1, ⟨vs, vt, ho.blk hbl (hS _ (Or.inl (Or.inl rfl))), ⟨own_keep hr.s ho (fun g hg => hS g (Or.inr (Or.inr (Or.inl (h1.symm.trans hg))))), own_keep hr.t ho (fun g hg => hS g (Or.inr (Or.inr (Or.inr (h2.symm.trans hg))))), hr.ne⟩, h1, h2⟩, ?_, ?_, h.r1, h.ag, h.sl, h.tll⟩
  · show JnIs w' B.j B.rb p (H.use * (s'.n / 2)) (s'.n / 2) H.J.l H.J.fin H.J.o
    rw [hn]
    exact h.jn.only ho (hS _ (Or.inl (Or.inr rfl))) (fun g hg => hS g (Or.inr (Or.inl hg)))
  · show JS.Ok (H.use * (s'.n / 2)) (s'.n / 2) { H.J with s := s' }
    rw [hn]
    have hh := hk.has
    exact ⟨hs.wf, by unfold St.Has at hh ⊢; show _ ∧ _ ≤ s'.n; rw [hn]; exact hh, hk.fin, hk.len⟩
/-- Halves within a walk that began at a world; F: what else stands there. -/
structure HIn (w0 w : World) (p b hh : Nat) (F : List Nat) (H : HT) : Prop where
  ex : ∃ B : HB, B.h = hh ∧ HalIs w B p b H ∧ ∀ x, x ∈ B.own → w0.heap.size ≤ x ∧ x ∉ F
  on : Only [] w0 w
  pb : w0.heap.size ≤ p ∧ w0.heap.size ≤ b
  fl : ∀ x, x ∈ F → x < w.heap.size ∧ x ≠ p ∧ x ≠ b
theorem HIn.st {w0 w : World} {p b hh : Nat} {F : List Nat} {H : HT} (h : HIn w0 w p b hh F H) : StoreIs w p b H.J.s := by
  obtain ⟨B, _, hB, _⟩ := h.ex
  exact hB.st
theorem HIn.keep {w0 w w' : World} {p b hh : Nat} {F : List Nat} {H : HT} (h : HIn w0 w p b hh F H) (ho : Only [] w w') : HIn w0 w' p b hh F H := by
  obtain ⟨B, h1, hB, h2⟩ := h.ex
  exact ⟨⟨B, h1, hB.keep ho, h2⟩, h.on.tr ho, h.pb, fun x hx => ⟨Nat.lt_of_lt_of_le (h.fl x hx).1 ho.size, (h.fl x hx).2⟩⟩
/-- More stands beside halves. -/
theorem HIn.frame {w0 w : World} {p b hh : Nat} {F : List Nat} {H : HT} (h : HIn w0 w p b hh F H) {w' : World} (ho : Only [] w w') (G : List Nat) (hG : ∀ x, x ∈ G → x ∈ F ∨ (w.heap.size ≤ x ∧ x < w'.heap.size)) : HIn w0 w' p b hh G H := by
  obtain ⟨B, h1, hB, h2⟩ := h.ex
  have hl := hal_lt hB
  refine ⟨⟨B, h1, hB.keep ho, fun x hx => ⟨(h2 x hx).1, fun hg => ?_⟩⟩, h.on.tr ho, h.pb, fun x hx => ?_⟩
  · rcases hG x hg with e | e
    · exact (h2 x hx).2 e
    · have := hl x (by simp [hx]); omega
  · rcases hG x hx with e | e
    · exact ⟨Nat.lt_of_lt_of_le (h.fl x e).1 ho.size, (h.fl x e).2⟩
    · have h3 := hl p (by simp)
      have h4 := hl b (by simp)
      exact ⟨e.2, by omega, by omega⟩
/-- What a call on halves leaves. -/
def HPost (w0 w : World) (p b hh : Nat) (F : List Nat) (H : HT) (c : Int) (e : Ending) (w' : World) : Prop :=
  e = .returned (.int .i64 c) ∧ HIn w0 w' p b hh F H ∧ ∃ S, Only S w w' ∧ ∀ x, x ∈ F → x ∉ S
theorem HIn.post {w0 w : World} {p b hh : Nat} {F : List Nat} {H : HT} (h : HIn w0 w p b hh F H) {B : HB} (hb : B.h = hh) (hB : HalIs w B p b H) (h2 : ∀ x, x ∈ B.own → w0.heap.size ≤ x ∧ x ∉ F) {H' : HT} {c : Int} {e : Ending} {w' : World} (hp : HapPost B p b H' c w e w') : HPost w0 w p b hh F H' c e w' := by
  obtain ⟨he, ho, B', hb', ho', hH⟩ := hp
  have hsz := h.on.size
  refine ⟨he, ⟨⟨B', hb'.trans hb, hH, fun x hx => ?_⟩, h.on.trans ho ?_, h.pb, fun x hx => ⟨Nat.lt_of_lt_of_le (h.fl x hx).1 ho.size, (h.fl x hx).2⟩⟩, _, ho, fun x hx => ?_⟩
  · rcases ho' x hx with e1 | e1
    · exact h2 x e1
    · exact ⟨by omega, fun hf => by have := (h.fl x hf).1; omega⟩
  · intro x hx
    simp only [List.mem_append, List.mem_cons, List.not_mem_nil, or_false] at hx
    rcases hx with (rfl | rfl) | hx
    · exact Or.inr h.pb.1
    · exact Or.inr h.pb.2
    · exact Or.inr (h2 x hx).1
  · intro hm
    simp only [List.mem_append, List.mem_cons, List.not_mem_nil, or_false] at hm
    rcases hm with (e1 | e1) | e1
    · exact (h.fl x hx).2.1 e1
    · exact (h.fl x hx).2.2 e1
    · exact (h2 x e1).2 hx
theorem HIn.append {w0 w : World} {p b hh : Nat} {F : List Nat} {H : HT} (h : HIn w0 w p b hh F H) (d : ByteArray) (hd : d.size ≤ 140737488355328) :
    Calls Tryz.prog 10 #[.pointer (some ⟨hh, 0, none⟩), .string d] w (HPost w0 w p b hh F (H.append d.data.toList).1 (H.append d.data.toList).2) := by
  obtain ⟨B, h1, hB, h2⟩ := h.ex
  have := (happend_of hB d hd).mono (fun e w' hp => h.post h1 hB h2 hp)
  rw [h1] at this
  exact this
theorem HIn.compact {w0 w : World} {p b hh : Nat} {F : List Nat} {H : HT} (h : HIn w0 w p b hh F H) (hv0 : Vars w0) {v : Value} {sn : List Bs} (hv : RowA w v sn p b) (hv2 : RowA w v sn hh hh) (hl : sn.length ≤ 10000) (hx : ∀ x ∈ sn, x.length ≤ 140737488355328) :
    Calls Tryz.prog 12 #[.pointer (some ⟨hh, 0, none⟩), v] w (HPost w0 w p b hh F (H.compact sn).1 (H.compact sn).2) := by
  obtain ⟨B, h1, hB, h2⟩ := h.ex
  have := (compact_of hB (hv0.only h.on) hv (by rw [h1]; exact hv2) hl hx).mono (fun e w' hp => h.post h1 hB h2 hp)
  rw [h1] at this
  exact this
theorem HIn.told {w0 w w' : World} {p b hh : Nat} {F : List Nat} {H : HT} (h : HIn w0 w p b hh F H) (ho : Only [] w w') : HIn w0 w' p b hh F H := h.keep ho
theorem HIn.snapshot {w0 w : World} {p b hh : Nat} {F : List Nat} {H : HT} (h : HIn w0 w p b hh F H) : Calls Tryz.prog 24 #[.pointer (some ⟨hh, 0, none⟩)] w fun e w' => ∃ v, e = .returned v ∧ w'.ownsRow w.heap.size 9 1 v H.sn.length (H.sn.map strV) ∧ Only [] w w' := by
  obtain ⟨B, h1, hB, h2⟩ := h.ex
  have := snapshot_of hB
  rw [h1] at this
  exact this
theorem HIn.tail {w0 w : World} {p b hh : Nat} {F : List Nat} {H : HT} (h : HIn w0 w p b hh F H) : Calls Tryz.prog 25 #[.pointer (some ⟨hh, 0, none⟩)] w fun e w' => ∃ v, e = .returned v ∧ w'.ownsRow w.heap.size 9 1 v H.tl.length (H.tl.map strV) ∧ Only [] w w' := by
  obtain ⟨B, h1, hB, h2⟩ := h.ex
  have := tail_of hB
  rw [h1] at this
  exact this
theorem HIn.age {w0 w : World} {p b hh : Nat} {F : List Nat} {H : HT} (h : HIn w0 w p b hh F H) : Calls Tryz.prog 26 #[.pointer (some ⟨hh, 0, none⟩)] w fun e w' => e = .returned (.int .i64 H.age) ∧ Only [] w w' := by
  obtain ⟨B, h1, hB, h2⟩ := h.ex
  have := hage_of hB
  rw [h1] at this
  exact this
theorem HIn.room {w0 w : World} {p b hh : Nat} {F : List Nat} {H : HT} (h : HIn w0 w p b hh F H) : Calls Tryz.prog 27 #[.pointer (some ⟨hh, 0, none⟩)] w fun e w' => e = .returned (.int .i64 (32 * ((H.J.s.n / 2 : Nat) : Int) - (H.J.fin : Int))) ∧ Only [] w w' := by
  obtain ⟨B, h1, hB, h2⟩ := h.ex
  have := hroom_of hB
  rw [h1] at this
  exact this
/-- A store is opened within a walk. -/
def OpenIn (w0 w : World) (p b : Nat) (F : List Nat) (s : St) (e : Ending) (w' : World) : Prop :=
  (∃ S, Only S w w' ∧ (∀ x, x ∈ F → x ∉ S)) ∧ Only [] w0 w' ∧ StoreIs w' p b (openH s).1.J.s ∧ (openH s).1.J.s.n = s.n ∧
    (((openH s).2 ≠ 0 ∧ e = .returned (.tuple #[.pointer none, .int .i64 (openH s).2])) ∨ ((openH s).2 = 0 ∧ ∃ hh, e = .returned (.tuple #[.pointer (some ⟨hh, 0, none⟩), .int .i64 0]) ∧ w.heap.size ≤ hh ∧ HIn w0 w' p b hh F (openH s).1))
theorem open_in {w0 w : World} {p b : Nat} {F : List Nat} {s : St} (h : StoreIs w p b s) (ho : Only [] w0 w) (hpb : w0.heap.size ≤ p ∧ w0.heap.size ≤ b) (hF : ∀ x, x ∈ F → x < w.heap.size ∧ x ≠ p ∧ x ≠ b) (h4 : 4 ≤ s.n) (hv : Vars w0) :
    Calls Tryz.prog 7 #[.pointer (some ⟨p, 0, none⟩)] w (OpenIn w0 w p b F s) := by
  refine (openH_of h h4 (hv.only ho)).mono ?_
  rintro e w' ⟨h1, h2, h3, po, rfl, h5, h6⟩
  have hon : Only [] w0 w' := ho.trans h1 (by simp; exact hpb)
  refine ⟨⟨_, h1, fun x hx => by have := hF x hx; simp; exact this.2⟩, hon, h2, h3, ?_⟩
  by_cases h0 : (openH s).2 = 0
  · right
    obtain ⟨B, rfl, h7, h8⟩ := h6 h0
    rw [h0]
    refine ⟨rfl, B.h, rfl, h7 _ (by unfold HB.own; simp), ⟨B, rfl, h8, fun x hx => ⟨Nat.le_trans ho.size (h7 x hx), fun hf => ?_⟩⟩, hon, hpb, fun x hx => ⟨Nat.lt_of_lt_of_le (hF x hx).1 h1.size, (hF x hx).2⟩⟩
    have := (hF x hf).1
    have := h7 x hx
    omega
  · left
    exact ⟨h0, by rw [h5 h0]⟩
end Go.Proofs.YtngcdkbnljoodaaGreatDoor

namespace Go.Proofs.YtngcdkbnljoodaaGreatDoor
set_option linter.unusedVariables false
set_option linter.unusedSimpArgs false
open Go.RowKit Go.Proofs.YtngcdkbnljoodaaGreatDoorW.PrintWords

/-- Halves that agree with their store, which has no fuse. -/
structure HLive (w0 w : World) (p b hh : Nat) (F : List Nat) (H : HT) : Prop where
  i : HIn w0 w p b hh F H
  f : Fit H
  nf : H.J.s.fuse = -1
theorem HLive.keep {w0 w w' : World} {p b hh : Nat} {F : List Nat} {H : HT} (h : HLive w0 w p b hh F H) (ho : Only [] w w') : HLive w0 w' p b hh F H := ⟨h.i.keep ho, h.f, h.nf⟩
def Away2 (F : List Nat) (w w' : World) : Prop := ∃ S, Only S w w' ∧ ∀ x, x ∈ F → x ∉ S
def UpApp (w0 w : World) (p b hh : Nat) (F : List Nat) (H : HT) (d : Bs) (e : Ending) (w' : World) : Prop :=
  ∃ (c : Int) (H' : HT), e = .returned (.int .i64 c) ∧ HLive w0 w' p b hh F H' ∧ Away2 F w w' ∧ H'.J.s.n = H.J.s.n ∧ H'.age = H.age ∧ H'.sn = H.sn ∧
    ((c = 3 ∧ 398 < d.length ∧ H'.tl = H.tl ∧ H'.J.fin = H.J.fin) ∨ (c = 14 ∧ d.length ≤ 398 ∧ 32 * (H.J.s.n / 2) < H.J.fin + (d.length + 10) ∧ H'.tl = H.tl ∧ H'.J.fin = H.J.fin) ∨ (c = 0 ∧ d.length ≤ 398 ∧ H'.tl = H.tl ++ [d] ∧ H'.J.fin = H.J.fin + (d.length + 10)))
theorem up_append {w0 w : World} {p b hh : Nat} {F : List Nat} {H : HT} (h : HLive w0 w p b hh F H) (d : ByteArray) (hd : d.size ≤ 140737488355328) :
    Calls Tryz.prog 10 #[.pointer (some ⟨hh, 0, none⟩), .string d] w (UpApp w0 w p b hh F H d.data.toList) := by
  refine (h.i.append d hd).mono ?_
  rintro e w' ⟨rfl, hi, hS⟩
  obtain ⟨hn, _, hc⟩ := fit_append h.f d.data.toList
  refine ⟨_, _, rfl, ?_, hS, hn, ?_⟩
  · rcases hc with ⟨_, _, e⟩ | ⟨_, _, _, e⟩ | ⟨_, _, _, hf, _, _, _, _, hnf⟩ | ⟨_, hne, _⟩
    · exact ⟨hi, by rw [e]; exact h.f, by rw [e]; exact h.nf⟩
    · exact ⟨hi, by rw [e]; exact h.f, by rw [e]; exact h.nf⟩
    · exact ⟨hi, hf, hnf h.nf⟩
    · exact absurd h.nf hne
  · rcases hc with ⟨h1, h2, e⟩ | ⟨h1, h2, h3, e⟩ | ⟨h1, h2, _, _, h4, h5, h6, h7, _⟩ | ⟨_, hne, _⟩
    · exact ⟨by rw [e], by rw [e], Or.inl ⟨h1, h2, by rw [e], by rw [e]⟩⟩
    · exact ⟨by rw [e], by rw [e], Or.inr (Or.inl ⟨h1, h2, h3, by rw [e], by rw [e]⟩)⟩
    · exact ⟨h4, h5, Or.inr (Or.inr ⟨h1, h2, h6, h7⟩)⟩
    · exact absurd h.nf hne
theorem up_append_ok {w0 w : World} {p b hh : Nat} {F : List Nat} {H : HT} (h : HLive w0 w p b hh F H) (d : ByteArray) (hd : d.size ≤ 398) (hr : H.J.fin + (d.size + 10) ≤ 32 * (H.J.s.n / 2)) :
    Calls Tryz.prog 10 #[.pointer (some ⟨hh, 0, none⟩), .string d] w fun e w' => e = .returned (.int .i64 0) ∧ Away2 F w w' ∧ ∃ H', HLive w0 w' p b hh F H' ∧ H'.J.s.n = H.J.s.n ∧ H'.age = H.age ∧ H'.sn = H.sn ∧ H'.tl = H.tl ++ [d.data.toList] ∧ H'.J.fin = H.J.fin + (d.size + 10) := by
  have hdl : d.data.toList.length = d.size := rfl
  refine (up_append h d (by omega)).mono ?_
  rintro e w' ⟨c, H', rfl, hl, hS, h1, h2, h3, (⟨_, h4, _⟩ | ⟨_, _, h4, _⟩ | ⟨rfl, _, h4, h5⟩)⟩
  · omega
  · omega
  · exact ⟨rfl, hS, H', hl, h1, h2, h3, h4, h5⟩
theorem frames_recs (a : Int) (sn : List Bs) : (frames (recsL a sn)).length = ((ageB a).length + 8) + (sumL sn + 10 * sn.length) + 12 := by
  have h : ∀ l : List Bs, (frames (l.map snB)).length = sumL l + 10 * l.length := by
    intro l
    induction l with
    | nil => rfl
    | cons x t ih =>
      rw [List.map_cons, frames_cons, List.length_append, frameL_length, ih]
      show ([115, 32] ++ x : Bs).length + 8 + _ = x.length + sumL t + 10 * (t.length + 1)
      rw [List.length_append]
      show 2 + x.length + 8 + _ = _
      omega
  unfold recsL
  rw [List.cons_append, frames_cons, List.length_append, frameL_length, frames_append, List.length_append, h]
  have : (frames [liveB]).length = 12 := rfl
  omega
def UpComp (w0 w : World) (p b hh : Nat) (F : List Nat) (H : HT) (sn : List Bs) (e : Ending) (w' : World) : Prop :=
  ∃ (c : Int) (H' : HT), e = .returned (.int .i64 c) ∧ HLive w0 w' p b hh F H' ∧ Away2 F w w' ∧ H'.J.s.n = H.J.s.n ∧
    ((c = 0 ∧ wideL sn = false ∧ H'.age = H.age + 1 ∧ H'.sn = sn ∧ H'.tl = [] ∧ H'.J.fin = (frames (recsL (H.age + 1) sn)).length ∧ (frames (recsL (H.age + 1) sn)).length ≤ 32 * (H.J.s.n / 2)) ∨
      (H'.age = H.age ∧ H'.sn = H.sn ∧ H'.tl = H.tl ∧ H'.J.fin = H.J.fin ∧ ((c = 3 ∧ wideL sn = true) ∨ (c = 4 ∧ wideL sn = false ∧ 999999999999999999 ≤ H.age) ∨ (c = 14 ∧ wideL sn = false ∧ 32 * (H.J.s.n / 2) < (frames (recsL (H.age + 1) sn)).length))))
theorem up_compact {w0 w : World} {p b hh : Nat} {F : List Nat} {H : HT} (h : HLive w0 w p b hh F H) (hv0 : Vars w0) {v : Value} {sn : List Bs} (hv : RowA w v sn p b) (hv2 : RowA w v sn hh hh) (hl : sn.length ≤ 10000) (hx : ∀ x ∈ sn, x.length ≤ 140737488355328) :
    Calls Tryz.prog 12 #[.pointer (some ⟨hh, 0, none⟩), v] w (UpComp w0 w p b hh F H sn) := by
  refine (h.i.compact hv0 hv hv2 hl hx).mono ?_
  rintro e w' ⟨rfl, hi, hS⟩
  obtain ⟨hn, hnf, hc⟩ := fit_compact h.f sn
  refine ⟨_, _, rfl, ?_, hS, hn, ?_⟩
  · rcases hc with ⟨_, _, e⟩ | ⟨_, _, e⟩ | ⟨_, _, hf, _⟩ | ⟨_, _, _, hf, _⟩ | ⟨_, hne, _⟩
    · exact ⟨hi, by rw [e]; exact h.f, by rw [e]; exact h.nf⟩
    · exact ⟨hi, by rw [e]; exact h.f, by rw [e]; exact h.nf⟩
    · exact ⟨hi, hf, hnf h.nf⟩
    · exact ⟨hi, hf, hnf h.nf⟩
    · exact absurd h.nf hne
  · rcases hc with ⟨h1, h2, e⟩ | ⟨h1, h2, e⟩ | ⟨h1, h2, _, h3, h4, h5, h6, h7⟩ | ⟨h1, h2, h3, _, h4, h5, h6, h7⟩ | ⟨_, hne, _⟩
    · exact Or.inr ⟨by rw [e], by rw [e], by rw [e], by rw [e], Or.inl ⟨h1, h2⟩⟩
    · refine Or.inr ⟨by rw [e], by rw [e], by rw [e], by rw [e], ?_⟩
      cases hw : wideL sn with
      | true =>
        left
        refine ⟨?_, rfl⟩
        unfold HT.compact
        rw [if_pos hw]
      | false => exact Or.inr (Or.inl ⟨h1, rfl, h2⟩)
    · exact Or.inl ⟨h1, h2, h3, h4, h5, h6, h7⟩
    · exact Or.inr ⟨h4, h5, h6, h7, Or.inr (Or.inr ⟨h1, h2, h3⟩)⟩
    · exact absurd h.nf hne
theorem up_compact_ok {w0 w : World} {p b hh : Nat} {F : List Nat} {H : HT} (h : HLive w0 w p b hh F H) (hv0 : Vars w0) {v : Value} {sn : List Bs} (hv : RowA w v sn p b) (hv2 : RowA w v sn hh hh) (hl : sn.length ≤ 10000) (hx : ∀ x ∈ sn, x.length ≤ 140737488355328)
    (hw : wideL sn = false) (ha : H.age < 999999999999999999) (hr : (frames (recsL (H.age + 1) sn)).length ≤ 32 * (H.J.s.n / 2)) :
    Calls Tryz.prog 12 #[.pointer (some ⟨hh, 0, none⟩), v] w fun e w' => e = .returned (.int .i64 0) ∧ Away2 F w w' ∧ ∃ H', HLive w0 w' p b hh F H' ∧ H'.J.s.n = H.J.s.n ∧ H'.age = H.age + 1 ∧ H'.sn = sn ∧ H'.tl = [] ∧ H'.J.fin = (frames (recsL (H.age + 1) sn)).length := by
  refine (up_compact h hv0 hv hv2 hl hx).mono ?_
  rintro e w' ⟨c, H', rfl, hl, hS, h1, (⟨rfl, _, h2, h3, h4, h5, _⟩ | ⟨_, _, _, _, (⟨_, h2⟩ | ⟨_, _, h2⟩ | ⟨_, _, h2⟩)⟩)⟩
  · exact ⟨rfl, hS, H', hl, h1, h2, h3, h4, h5⟩
  · rw [hw] at h2; cases h2
  · omega
  · omega
/-- A store is opened that is up. -/
theorem up_open {w0 w : World} {p b : Nat} {F : List Nat} {s : St} {u : Nat} {X : Int × List Bs × List Bs} (h : StoreIs w p b s) (ho : Only [] w0 w) (hpb : w0.heap.size ≤ p ∧ w0.heap.size ≤ b) (hF : ∀ x, x ∈ F → x < w.heap.size ∧ x ≠ p ∧ x ≠ b) (ht : Tells s u X) (hd : s.down = false) (hf : s.fuse = -1) (hv : Vars w0) :
    Calls Tryz.prog 7 #[.pointer (some ⟨p, 0, none⟩)] w fun e w' => ∃ hh, e = .returned (.tuple #[.pointer (some ⟨hh, 0, none⟩), .int .i64 0]) ∧ w.heap.size ≤ hh ∧ Away2 F w w' ∧ ∃ H', HLive w0 w' p b hh F H' ∧ H'.J.s.n = s.n ∧ H'.age = X.1 ∧ H'.sn = X.2.1 ∧ H'.tl = X.2.2 := by
  obtain ⟨_, h0, h1⟩ := tells_open ht hd
  obtain ⟨hf1, _, hf3, hf4, hf5⟩ := h1 (h0 hf).1
  refine (open_in h ho hpb hF ht.n4 hv).mono ?_
  rintro e w' ⟨hS, hon, hst, hn, (⟨hne, _⟩ | ⟨_, hh, rfl, hge, hi⟩)⟩
  · exact absurd (h0 hf).1 hne
  · exact ⟨hh, rfl, hge, hS, _, ⟨hi, hf1, (h0 hf).2⟩, hn, hf3, hf4, hf5⟩
theorem up_new {w0 w : World} {p b : Nat} {F : List Nat} {n : Nat} (h : StoreIs w p b (St.new n)) (ho : Only [] w0 w) (hpb : w0.heap.size ≤ p ∧ w0.heap.size ≤ b) (hF : ∀ x, x ∈ F → x < w.heap.size ∧ x ≠ p ∧ x ≠ b) (h4 : 4 ≤ n) (h256 : n ≤ 256) (hv : Vars w0) :
    Calls Tryz.prog 7 #[.pointer (some ⟨p, 0, none⟩)] w fun e w' => ∃ hh, e = .returned (.tuple #[.pointer (some ⟨hh, 0, none⟩), .int .i64 0]) ∧ w.heap.size ≤ hh ∧ Away2 F w w' ∧ ∃ H', HLive w0 w' p b hh F H' ∧ H'.J.s.n = n ∧ H'.age = 1 ∧ H'.sn = [] ∧ H'.tl = [] ∧ H'.J.fin = 23 := by
  obtain ⟨h0, hf, h1, h2, h3, h5, h6, h7, _⟩ := fit_new n h4 h256
  refine (open_in h ho hpb hF h4 hv).mono ?_
  rintro e w' ⟨hS, hon, hst, hn, (⟨hne, _⟩ | ⟨_, hh, rfl, hge, hi⟩)⟩
  · exact absurd h0 hne
  · exact ⟨hh, rfl, hge, hS, _, ⟨hi, hf, h6⟩, h7, h1, h2, h3, h5⟩
/-- The store's fuse, and its power. -/
theorem HIn.store {w0 w w' : World} {p b hh : Nat} {F : List Nat} {H : HT} (h : HIn w0 w p b hh F H) {s' : St} (ho : Only [p] w w') (hs : StoreIs w' p b s') (hn : s'.n = H.J.s.n) : HIn w0 w' p b hh F { H with J := { H.J with s := s' } } ∧ Away2 F w w' := by
  obtain ⟨B, h1, hB, h2⟩ := h.ex
  exact ⟨⟨⟨B, h1, hB.store (ho.mono (by simp)) hs hn, h2⟩, h.on.trans ho (by simp; exact h.pb.1), h.pb, fun x hx => ⟨Nat.lt_of_lt_of_le (h.fl x hx).1 ho.size, (h.fl x hx).2⟩⟩, _, ho, fun x hx => by simp; exact (h.fl x hx).2.1⟩
theorem HIn.fuse {w0 w : World} {p b hh : Nat} {F : List Nat} {H : HT} (h : HIn w0 w p b hh F H) (x y : Int) (hx : x ≤ 9223372036854775807) :
    Calls Tryz.prog 14 #[.pointer (some ⟨p, 0, none⟩), .int .i64 x, .int .i64 y] w fun e w' => e = .returned (.tuple #[]) ∧ HIn w0 w' p b hh F { H with J := { H.J with s := H.J.s.setFuse x y } } ∧ Away2 F w w' := by
  refine (fuse_of h.st x y hx).mono ?_
  rintro e w' ⟨rfl, hs, ho⟩
  exact ⟨rfl, h.store ho hs rfl⟩
theorem HIn.up {w0 w : World} {p b hh : Nat} {F : List Nat} {H : HT} (h : HIn w0 w p b hh F H) :
    Calls Tryz.prog 16 #[.pointer (some ⟨p, 0, none⟩)] w fun e w' => e = .returned (.tuple #[]) ∧ HIn w0 w' p b hh F { H with J := { H.J with s := H.J.s.up } } ∧ Away2 F w w' := by
  refine (up_of h.st).mono ?_
  rintro e w' ⟨rfl, hs, ho⟩
  exact ⟨rfl, h.store ho hs rfl⟩
/-- Halves beside those in use: their store was turned by others. -/
def HOld (w : World) (B : HB) (p b : Nat) (H : HT) (N : Nat) : Prop := ∃ s' : St, s'.n = N ∧ HalIs w B p b { H with J := { H.J with s := s' } }
theorem HOld.turn {w w' : World} {B : HB} {p b : Nat} {H : HT} {N : Nat} (h : HOld w B p b H N) {F : List Nat} (ho : Away2 F w w') (hF : ∀ x, x ∈ B.own → x ∈ F) {s : St} (hs : StoreIs w' p b s) (hn : s.n = N) : HOld w' B p b H N := by
  obtain ⟨s', h1, h2⟩ := h
  obtain ⟨S, h3, h4⟩ := ho
  exact ⟨s, hn, h2.other h3 (fun x hx => h4 x (hF x hx)) hs (hn.trans h1.symm)⟩
theorem HOld.keep {w w' : World} {B : HB} {p b : Nat} {H : HT} {N : Nat} (h : HOld w B p b H N) (ho : Only [] w w') : HOld w' B p b H N := by
  obtain ⟨s', h1, h2⟩ := h
  exact ⟨s', h1, h2.keep ho⟩
theorem HalIs.apart {w : World} {B : HB} {p b : Nat} {H : HT} (hB : HalIs w B p b H) : ∀ x, x ∈ B.own → x < w.heap.size ∧ x ≠ p ∧ x ≠ b := by
  intro x hx
  refine ⟨hal_lt hB x (by simp [hx]), ?_⟩
  obtain ⟨vs, vt, hb, hr, e1, e2⟩ := hB.ex
  have hj := hB.jn.away hB.st
  unfold HB.own at hx
  simp only [List.mem_append, List.mem_cons, List.not_mem_nil, or_false, Option.mem_toList, Option.mem_def] at hx
  rcases hx with (rfl | rfl) | hx | hx | hx
  · exact ⟨ty_ne ⟨_, _, hb⟩ hB.st.typeP (by decide), ty_ne ⟨_, _, hb⟩ hB.st.typeB (by decide)⟩
  · exact hj.1
  · exact hj.2.1 x hx
  · have hg := own_type hr.s (g := x) (e1.trans hx)
    exact ⟨ty_ne hg hB.st.typeP (by decide), ty_ne hg hB.st.typeB (by decide)⟩
  · have hg := own_type hr.t (g := x) (e2.trans hx)
    exact ⟨ty_ne hg hB.st.typeP (by decide), ty_ne hg hB.st.typeB (by decide)⟩
theorem HIn.old {w0 w : World} {p b hh : Nat} {F : List Nat} {H : HT} (h : HIn w0 w p b hh F H) {N : Nat} (hn : H.J.s.n = N) : ∃ B : HB, B.h = hh ∧ HOld w B p b H N := by
  obtain ⟨B, h1, hB, h2⟩ := h.ex
  exact ⟨B, h1, H.J.s, hn, hB⟩
theorem HOld.apart {w : World} {B : HB} {p b : Nat} {H : HT} {N : Nat} (h : HOld w B p b H N) : ∀ x, x ∈ B.own → x < w.heap.size ∧ x ≠ p ∧ x ≠ b := by
  obtain ⟨s', _, h2⟩ := h
  exact h2.apart
theorem HIn.lt {w0 w : World} {p b hh : Nat} {F : List Nat} {H : HT} (h : HIn w0 w p b hh F H) : p < w.heap.size ∧ b < w.heap.size ∧ hh < w.heap.size := by
  obtain ⟨B, h1, hB, h2⟩ := h.ex
  have hl := hal_lt hB
  exact ⟨hl p (by simp), hl b (by simp), by rw [← h1]; exact hl B.h (by simp [HB.own])⟩
theorem HOld.snapshot {w : World} {B : HB} {p b : Nat} {H : HT} {N : Nat} (h : HOld w B p b H N) : Calls Tryz.prog 24 #[.pointer (some ⟨B.h, 0, none⟩)] w fun e w' => ∃ v, e = .returned v ∧ w'.ownsRow w.heap.size 9 1 v H.sn.length (H.sn.map strV) ∧ Only [] w w' := by
  obtain ⟨s', _, h2⟩ := h
  have h3 := snapshot_of h2
  exact h3
theorem HOld.tail {w : World} {B : HB} {p b : Nat} {H : HT} {N : Nat} (h : HOld w B p b H N) : Calls Tryz.prog 25 #[.pointer (some ⟨B.h, 0, none⟩)] w fun e w' => ∃ v, e = .returned v ∧ w'.ownsRow w.heap.size 9 1 v H.tl.length (H.tl.map strV) ∧ Only [] w w' := by
  obtain ⟨s', _, h2⟩ := h
  have h3 := tail_of h2
  exact h3
theorem HOld.age {w : World} {B : HB} {p b : Nat} {H : HT} {N : Nat} (h : HOld w B p b H N) : Calls Tryz.prog 26 #[.pointer (some ⟨B.h, 0, none⟩)] w fun e w' => e = .returned (.int .i64 H.age) ∧ Only [] w w' := by
  obtain ⟨s', _, h2⟩ := h
  have h3 := hage_of h2
  exact h3
end Go.Proofs.YtngcdkbnljoodaaGreatDoor

