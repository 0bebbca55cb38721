/- Where a net leads: the table, and the points met. No program in sight. No conditions beyond those typed. -/
import Derived.Test.YtofgaeiihclokaaNedQ
import Derived.Test.YtofgaeiihclokaaP12
namespace Go.Proofs.Ytofgaeiihclokaa.P
open Go.RowKit Go.Shelf Go.Lib Go.Sort Go.Maps Go.Proofs.YtofgaeiihclokaaW.PrintWords Go.Proofs.YtofgaeiihclokaaW.PrintLast Go.Proofs.YtofgaeiihclokaaW.PrintMore
set_option linter.unusedVariables false
set_option linter.unusedSimpArgs false

/-- The points to which one leads by one way. -/
def waysL (N : List (List Int)) (i : Nat) : List Int := (N.getD i []).filter fun k => decide (0 ≤ k) && decide (k < (N.length : Int))
def edgeB (N : List (List Int)) (i j : Nat) : Bool := (waysL N i).contains (j : Int)
/-- .. over points below k. -/
def tb (N : List (List Int)) : Nat → Nat → Nat → Bool
  | 0, i, j => edgeB N i j
  | k + 1, i, j => tb N k i j || (tb N k i k && tb N k k j)
/-- Does a point lead to another one? -/
def reachB (N : List (List Int)) (i j : Nat) : Bool := tb N N.length i j

theorem edge_lt {N : List (List Int)} {i j : Nat} (h : edgeB N i j = true) : j < N.length := by
  unfold edgeB waysL at h
  rw [List.contains_iff_mem, List.mem_filter] at h
  have := h.2
  simp only [Bool.and_eq_true, decide_eq_true_eq] at this
  omega
theorem tb_mono {N : List (List Int)} {k i j : Nat} (h : tb N k i j = true) : tb N (k + 1) i j = true := by
  rw [tb, h, Bool.true_or]
theorem tb_edge {N : List (List Int)} {i j : Nat} (h : edgeB N i j = true) : ∀ k, tb N k i j = true
  | 0 => h
  | k + 1 => tb_mono (tb_edge h k)
theorem tb_left {N : List (List Int)} (k i : Nat) : tb N (k + 1) i k = tb N k i k := by
  rw [tb]
  cases tb N k i k <;> simp
theorem tb_right {N : List (List Int)} (k j : Nat) : tb N (k + 1) k j = tb N k k j := by
  rw [tb]
  cases tb N k k j <;> simp
theorem tb_closed {N : List (List Int)} : ∀ k m i j, m < k → tb N k i m = true → tb N k m j = true → tb N k i j = true
  | 0, m, i, j, hm, _, _ => by omega
  | k + 1, m, i, j, hm, h1, h2 => by
    by_cases e : m = k
    · subst e
      rw [tb_left] at h1
      rw [tb_right] at h2
      rw [tb, h1, h2]
      simp
    · have ih := tb_closed (N := N) k m
      rw [tb, Bool.or_eq_true, Bool.and_eq_true] at h1 h2
      rw [tb, Bool.or_eq_true, Bool.and_eq_true]
      rcases h1 with h1 | ⟨h1, h1'⟩
      · rcases h2 with h2 | ⟨h2, h2'⟩
        · exact .inl (ih i j (by omega) h1 h2)
        · exact .inr ⟨ih i k (by omega) h1 h2, h2'⟩
      · rcases h2 with h2 | ⟨h2, h2'⟩
        · exact .inr ⟨h1, ih k j (by omega) h1' h2⟩
        · exact .inr ⟨h1, h2'⟩
theorem tb_least {N : List (List Int)} {R : Nat → Nat → Prop} (he : ∀ i j, edgeB N i j = true → R i j) (ht : ∀ i m j, R i m → R m j → R i j) : ∀ k i j, tb N k i j = true → R i j
  | 0, i, j, h => he i j h
  | k + 1, i, j, h => by
    rw [tb, Bool.or_eq_true, Bool.and_eq_true] at h
    rcases h with h | ⟨h1, h2⟩
    · exact tb_least he ht k i j h
    · exact ht i k j (tb_least he ht k i k h1) (tb_least he ht k k j h2)
theorem reach_edge {N : List (List Int)} {i j : Nat} (h : edgeB N i j = true) : reachB N i j = true := tb_edge h _
theorem reach_trans {N : List (List Int)} {i m j : Nat} (h1 : reachB N i m = true) (h2 : reachB N m j = true) : reachB N i j = true := by
  refine tb_closed _ m i j ?_ h1 h2
  exact tb_least (R := fun _ m => m < N.length) (fun i j h => edge_lt h) (fun i m j _ h => h) N.length i m h1
theorem reach_lt {N : List (List Int)} {i j : Nat} (h : reachB N i j = true) : j < N.length :=
  tb_least (R := fun _ m => m < N.length) (fun i j h => edge_lt h) (fun i m j _ h => h) N.length i j h

/-- The reach of a point is the least set that holds its ways and is closed. -/
theorem reach_of_closed {N : List (List Int)} {a : Nat} {S : Nat → Bool} (h1 : ∀ j, S j = true → reachB N a j = true) (h2 : ∀ j, edgeB N a j = true → S j = true) (h3 : ∀ i j, S i = true → edgeB N i j = true → S j = true) (j : Nat) : S j = reachB N a j := by
  refine bool_ext ⟨h1 j, fun h => ?_⟩
  refine tb_least (R := fun i j => (i = a ∨ S i = true) → S j = true) (fun i j he hi => ?_) (fun i m j hi hm hh => hm (.inr (hi hh))) N.length a j h (.inl rfl)
  rcases hi with rfl | hi
  · exact h2 j he
  · exact h3 i j hi he

/-- The weight of what is not yet met. -/
def rest (N : List (List Int)) (seen : Nat → Bool) : Nat := ((List.range N.length).map fun i => if seen i then 0 else (waysL N i).length).sum
theorem sum_change (n a : Nat) (f g : Nat → Nat) (ha : a < n) (h : ∀ i, i ≠ a → f i = g i) : ((List.range n).map f).sum + g a = ((List.range n).map g).sum + f a := by
  induction n with
  | zero => omega
  | succ n ih =>
    rw [map_range_succ, map_range_succ, List.sum_append, List.sum_append]
    simp only [List.sum_cons, List.sum_nil, Nat.add_zero]
    by_cases e : a = n
    · subst e
      have : (List.range a).map f = (List.range a).map g := List.map_congr_left (fun i hi => h i (by have := List.mem_range.1 hi; omega))
      rw [this]
      omega
    · have := ih (by omega)
      rw [h n (fun e2 => e e2.symm)]
      omega
theorem rest_set {N : List (List Int)} {seen : Nat → Bool} {a : Nat} (ha : a < N.length) (hs : seen a = false) : rest N (fun i => if i = a then true else seen i) + (waysL N a).length = rest N seen := by
  unfold rest
  have := sum_change N.length a (fun i => if (if i = a then true else seen i) then 0 else (waysL N i).length) (fun i => if seen i then 0 else (waysL N i).length) ha (fun i hi => by simp [hi])
  simp only [if_true, hs, Bool.false_eq_true, if_false, Nat.add_zero] at this
  exact this

/-- Reach, within its loop. -/
structure RIn (N : List (List Int)) (a : Nat) (seen : List Bool) (todo : List Int) : Prop where
  len : seen.length = N.length
  tod : ∀ t, t ∈ todo → ∃ i : Nat, t = (i : Int) ∧ reachB N a i = true
  met : ∀ i, seen.getD i false = true → reachB N a i = true
  ways : ∀ i j : Nat, seen.getD i false = true → edgeB N i j = true → seen.getD j false = true ∨ (j : Int) ∈ todo
  first : ∀ j : Nat, edgeB N a j = true → seen.getD j false = true ∨ (j : Int) ∈ todo

theorem mem_ways {N : List (List Int)} {i : Nat} {t : Int} (h : t ∈ waysL N i) : ∃ j : Nat, t = (j : Int) ∧ edgeB N i j = true := by
  have h2 := h
  unfold waysL at h2
  rw [List.mem_filter] at h2
  have h3 := h2.2
  simp only [Bool.and_eq_true, decide_eq_true_eq] at h3
  obtain ⟨j, rfl⟩ := Int.eq_ofNat_of_zero_le h3.1
  exact ⟨j, rfl, by unfold edgeB; rw [List.contains_iff_mem]; exact h⟩
theorem edge_mem {N : List (List Int)} {i j : Nat} (h : edgeB N i j = true) : (j : Int) ∈ waysL N i := by
  unfold edgeB at h
  rwa [List.contains_iff_mem] at h
theorem set_getD (seen : List Bool) (i j : Nat) (hi : i < seen.length) : (seen.set i true).getD j false = if j = i then true else seen.getD j false := by
  rw [List.getD_eq_getElem?_getD, List.getElem?_set, List.getD_eq_getElem?_getD]
  by_cases e : i = j
  · subst e
    simp [hi]
  · rw [if_neg e, if_neg (fun e2 => e e2.symm)]

theorem waysf {N : List (List Int)} {i : Nat} (hi : i < N.length) (hl : (N.getD i []).length < 17592186044416) : ring_Net_ways.f N (i : Int) = some (waysL N i) := by
  unfold ring_Net_ways.f waysL
  rw [if_pos ⟨by omega, by omega, by simpa using hl⟩, Int.toNat_natCast]
theorem collect_ev (seen : List Bool) (hn : seen.length < 4398046511104) : Ev (fun k => ring_Reach.l1 k [] seen (seen.length : Int) 0) (pick seen.length fun i => seen.getD i false) := by
  have h : ∀ m i, i + m = seen.length → Ev (fun k => ring_Reach.l1 k (pick i fun i => seen.getD i false) seen (seen.length : Int) (i : Int)) (pick seen.length fun i => seen.getD i false) := by
    intro m
    induction m with
    | zero =>
      intro i hi
      obtain rfl : i = seen.length := by omega
      exact Ev.done (fun k => by rw [ring_Reach.l1, if_neg (by omega)])
    | succ m ih =>
      intro i hi
      have hih := ih (i + 1) (by omega)
      have hl := pick_length i (fun i => seen.getD i false)
      rw [pick_succ] at hih
      have hr : rdOf false seen (i : Int) = seen.getD i false := by show seen.getD _ _ = _; rw [Int.toNat_natCast]
      cases hb : seen.getD i false with
      | true =>
        rw [if_pos hb] at hih
        exact Ev.step hih (fun k => by rw [ring_Reach.l1, if_pos (by omega), if_pos (by omega), if_pos (by omega), hr, hb, if_pos rfl, if_pos (by omega), w64 i (by omega)])
      | false =>
        rw [if_neg (by rw [hb]; simp)] at hih
        exact Ev.step hih (fun k => by rw [ring_Reach.l1, if_pos (by omega), if_pos (by omega), if_pos (by omega), hr, hb, if_neg (by simp), w64 i (by omega)])
  exact h seen.length 0 (by omega)

theorem reach_ev (N : List (List Int)) (a : Nat) (ha : a < N.length) (hn : N.length < 4398046511104) (hl : ∀ i, i < N.length → (N.getD i []).length < 17592186044416) (hr : (waysL N a).length + rest N (fun _ => false) < 17592186044416) :
    Ev (fun k => ring_Reach.f k N (a : Int)) (pick N.length (reachB N a)) := by
  have hempty : ∀ seen, RIn N a seen [] → Ev (fun k => ring_Reach.l0 k N seen []) (pick N.length (reachB N a)) := by
    intro seen h
    have hS : ∀ j, seen.getD j false = reachB N a j := fun j => reach_of_closed (S := fun i => seen.getD i false) h.met (fun j hj => by rcases h.first j hj with e | e; exact e; simp at e) (fun i j hi hj => by rcases h.ways i j hi hj with e | e; exact e; simp at e) j
    have := collect_ev seen (by rw [h.len]; exact hn)
    rw [show (fun i => seen.getD i false) = reachB N a from funext hS, h.len] at this
    exact Ev.step this (fun k => by rw [ring_Reach.l0, if_neg (by simp), h.len])
  have h : ∀ m seen todo, todo.length + rest N (fun i => seen.getD i false) ≤ m → m < 17592186044416 → RIn N a seen todo → Ev (fun k => ring_Reach.l0 k N seen todo) (pick N.length (reachB N a)) := by
    intro m
    induction m with
    | zero =>
      intro seen todo hm hlt h
      obtain rfl : todo = [] := List.length_eq_zero_iff.1 (by omega)
      exact hempty seen h
    | succ m ih =>
      intro seen todo hm hlt h
      rcases List.eq_nil_or_concat todo with rfl | ⟨y, t, rfl⟩
      · exact hempty seen h
      · rw [List.concat_eq_append] at hm h ⊢
        obtain ⟨i, rfl, hi⟩ := h.tod t (by simp)
        have hin := reach_lt hi
        have hlen : (((y ++ [(i : Int)]).length : Nat) : Int) = (y.length : Int) + 1 := by simp
        have hy : y.length < 17592186044416 := by simp at hm; omega
        have hw : wrap64 (((y ++ [(i : Int)]).length : Int) - 1) = (y.length : Int) := by rw [hlen, IntWalk.wrap64_in _ (by omega)]; omega
        have hrd : rd (y ++ [(i : Int)]) (y.length : Int) = (i : Int) := by
          show (y ++ [(i : Int)]).getD _ _ = _
          simp [List.getD_eq_getElem?_getD]
        have htk : (y ++ [(i : Int)]).take ((y.length : Int)).toNat = y := by simp
        have hrs : rdOf false seen (i : Int) = seen.getD i false := by show seen.getD _ _ = _; rw [Int.toNat_natCast]
        have hbody : ∀ k, ring_Reach.l0 (k + 1) N seen (y ++ [(i : Int)]) = (if seen.getD i false = true then ring_Reach.l0 k N seen y else ((ring_Net_ways.f N (i : Int)).bind fun t253 => (if y.length + t253.length < 17592186044416 then (ring_Reach.l0 k N (seen.set ((i : Int)).toNat true) (y ++ t253)) else (none)))) := by
          intro k
          rw [ring_Reach.l0, if_pos (by rw [hlen]; omega), hw, if_pos (by omega), if_pos (by rw [hlen]; omega), if_pos (by rw [hlen]; omega), htk, Option.bind_some, hrd, if_pos (by omega), if_pos (by rw [h.len]; omega), hrs]
        have hm2 : y.length + 1 + rest N (fun i => seen.getD i false) ≤ m + 1 := by simpa using hm
        cases hb : seen.getD i false with
        | true =>
          refine Ev.step (ih seen y (by omega) (by omega) ⟨h.len, fun t ht => h.tod t (by simp [ht]), h.met, fun p q hp hq => ?_, fun q hq => ?_⟩) (fun k => by rw [hbody k, hb, if_pos rfl])
          · rcases h.ways p q hp hq with e | e
            · exact .inl e
            · rw [List.mem_append, List.mem_singleton] at e
              rcases e with e | e
              · exact .inr e
              · have : q = i := by omega
                subst this
                exact .inl hb
          · rcases h.first q hq with e | e
            · exact .inl e
            · rw [List.mem_append, List.mem_singleton] at e
              rcases e with e | e
              · exact .inr e
              · have : q = i := by omega
                subst this
                exact .inl hb
        | false =>
          have hset : ∀ j, (seen.set i true).getD j false = if j = i then true else seen.getD j false := fun j => set_getD seen i j (by rw [h.len]; exact hin)
          have hrest := rest_set (N := N) (seen := fun i => seen.getD i false) hin hb
          rw [show (fun j => if j = i then true else seen.getD j false) = (fun j => (seen.set i true).getD j false) from funext (fun j => (hset j).symm)] at hrest
          refine Ev.step (ih (seen.set i true) (y ++ waysL N i) (by rw [List.length_append]; omega) (by omega) ⟨by rw [List.length_set]; exact h.len, fun t ht => ?_, fun j hj => ?_, fun p q hp hq => ?_, fun q hq => ?_⟩)
            (fun k => by rw [hbody k, hb, if_neg (by simp), waysf hin (hl i hin), Option.bind_some, if_pos (by omega), Int.toNat_natCast])
          · rw [List.mem_append] at ht
            rcases ht with ht | ht
            · exact h.tod t (by simp [ht])
            · obtain ⟨j, rfl, hj⟩ := mem_ways ht
              exact ⟨j, rfl, reach_trans hi (reach_edge hj)⟩
          · rw [hset] at hj
            by_cases e : j = i
            · subst e; exact hi
            · rw [if_neg e] at hj
              exact h.met j hj
          · rw [hset] at hp
            rw [hset, List.mem_append]
            by_cases e : p = i
            · subst e
              exact .inr (.inr (edge_mem hq))
            · rw [if_neg e] at hp
              rcases h.ways p q hp hq with e2 | e2
              · left; split; rfl; exact e2
              · rw [List.mem_append, List.mem_singleton] at e2
                rcases e2 with e2 | e2
                · exact .inr (.inl e2)
                · left; rw [if_pos (by omega)]
          · rw [hset, List.mem_append]
            rcases h.first q hq with e2 | e2
            · left; split; rfl; exact e2
            · rw [List.mem_append, List.mem_singleton] at e2
              rcases e2 with e2 | e2
              · exact .inr (.inl e2)
              · left; rw [if_pos (by omega)]
  have hrep : ∀ i, (List.replicate N.length false).getD i false = false := fun i => by
    rw [List.getD_eq_getElem?_getD, List.getElem?_replicate]
    split <;> rfl
  have h0 := h ((waysL N a).length + rest N (fun _ => false)) (List.replicate N.length false) (waysL N a) (by rw [show (fun i => (List.replicate N.length false).getD i false) = fun _ => false from funext hrep]; omega) hr
    ⟨by simp, fun t ht => by obtain ⟨j, h1, h2⟩ := mem_ways ht; exact ⟨j, h1, reach_edge h2⟩, fun i hi => (by rw [hrep i] at hi; cases hi), fun i j hi _ => (by rw [hrep i] at hi; cases hi), fun j hj => .inr (edge_mem hj)⟩
  refine h0.same (fun k => ?_)
  unfold ring_Reach.f ring_Net_has.f
  rw [if_pos (by omega), Option.bind_some, decide_eq_true (show (a : Int) < (N.length : Int) by omega), if_pos rfl, if_pos (by omega), if_pos (by omega), waysf ha (hl a ha), Option.bind_some, Int.toNat_natCast]
end Go.Proofs.Ytofgaeiihclokaa.P
