/- needs.places, at, Blocks, Calls, Called, Excluded. No conditions beyond those typed. -/
import Derived.Test.YtofgaeiihclokaaNedC
import Derived.Maps.Own
import Derived.Maps.Views
namespace Go.Proofs.Ytofgaeiihclokaa.P
open Go.RowKit Go.Shelf Go.Lib Go.Sort Go.Maps Go.Proofs.YtofgaeiihclokaaW.PrintWords Go.Proofs.YtofgaeiihclokaaW.PrintLast Go.Proofs.YtofgaeiihclokaaW.PrintMore
set_option linter.unusedVariables false
set_option linter.unusedSimpArgs false

/-- Two rising lists with the same elements are one. -/
theorem sorted_ext : ∀ {a b : List Int}, a.Pairwise (· < ·) → b.Pairwise (· < ·) → (∀ x, x ∈ a ↔ x ∈ b) → a = b := by
  intro a
  induction a with
  | nil =>
    intro b _ _ h
    cases b with
    | nil => rfl
    | cons y b => exact absurd ((h y).2 (by simp)) (by simp)
  | cons x a ih =>
    intro b ha hb h
    cases b with
    | nil => exact absurd ((h x).1 (by simp)) (by simp)
    | cons y b =>
      rw [List.pairwise_cons] at ha hb
      have hxy : x = y := by
        have h1 := (h x).1 (by simp)
        have h2 := (h y).2 (by simp)
        rw [List.mem_cons] at h1 h2
        rcases h1 with h1 | h1
        · exact h1
        · rcases h2 with h2 | h2
          · exact h2.symm
          · have := hb.1 x h1
            have := ha.1 y h2
            omega
      subst hxy
      rw [ih ha.2 hb.2 (fun z => ?_)]
      constructor
      · intro hz
        have h1 := (h z).1 (by simp [hz])
        rw [List.mem_cons] at h1
        rcases h1 with h1 | h1
        · subst h1
          have := ha.1 z hz
          omega
        · exact h1
      · intro hz
        have h1 := (h z).2 (by simp [hz])
        rw [List.mem_cons] at h1
        rcases h1 with h1 | h1
        · subst h1
          have := hb.1 z hz
          omega
        · exact h1
theorem pick_sorted (n : Nat) (p : Nat → Bool) : (pick n p).Pairwise (· < ·) := by
  unfold pick
  rw [List.pairwise_map]
  refine List.Pairwise.imp (R := (· < ·)) (fun {a b} h => Int.ofNat_lt.2 h) ?_
  exact List.Pairwise.filter _ List.pairwise_lt_range
theorem mem_pick {n : Nat} {p : Nat → Bool} {x : Int} : x ∈ pick n p ↔ ∃ i : Nat, i < n ∧ p i = true ∧ x = (i : Int) := by
  unfold pick
  simp only [List.mem_map, List.mem_filter, List.mem_range]
  constructor
  · rintro ⟨i, ⟨h1, h2⟩, rfl⟩
    exact ⟨i, h1, h2, rfl⟩
  · rintro ⟨i, h1, h2, rfl⟩
    exact ⟨i, ⟨h1, h2⟩, rfl⟩

theorem intLaw : Keyed Try.prog 3 := int_keyed Try.underlying3
/-- The set of places that some ties tell, as a map's content. -/
structure SetIs (w : World) (b k : Nat) (S : Int → Prop) : Prop where
  ex : ∃ D : DataW Unit, w.ownsMap Try.prog 3 (plainElem Try.prog 4) b k D ∧ ∀ x, has D (.int .i64 x) = true ↔ S x

theorem SetIs.keep {w w' : World} {b k : Nat} {S : Int → Prop} (h : SetIs w b k S) (hb : w'.heap[b]? = w.heap[b]?) : SetIs w' b k S := by
  obtain ⟨D, ⟨es, clock, h1, h2, h3, h4⟩, hD⟩ := h.ex
  exact ⟨D, ⟨es, clock, hb.trans h1, h2, h3, h4⟩, hD⟩
theorem SetIs.lt {w : World} {b k : Nat} {S : Int → Prop} (h : SetIs w b k S) : b < w.heap.size := by
  obtain ⟨D, h1, _⟩ := h.ex
  exact h1.lt
theorem SetIs.mono {w : World} {b k k' : Nat} {S : Int → Prop} (h : SetIs w b k S) (hk : k ≤ k') : SetIs w b k' S := by
  obtain ⟨D, h1, h2⟩ := h.ex
  exact ⟨D, h1.mono hk, h2⟩
theorem SetIs.imp {w : World} {b k : Nat} {S S' : Int → Prop} (h : SetIs w b k S) (hS : ∀ x, S x ↔ S' x) : SetIs w b k S' := by
  obtain ⟨D, h1, h2⟩ := h.ex
  exact ⟨D, h1, fun x => (h2 x).trans (hS x)⟩
theorem SetIs.made (w : World) : SetIs (w.alloc (.map #[] 0)) w.heap.size 0 (fun _ => False) :=
  ⟨.map [], World.ownsMap_made _ _ _ _, fun x => by simp [has_eq]⟩

/-- slices.Sort's two contracts, at the fence that asks nothing. -/
theorem sortsI (m : Nat) : AnyZI.SortsIn Try.prog Try.sortedI_ren Fence.wide m :=
  ⟨fun blk off cap ss W hH hblk hsz => callsIn_wide.2 (AnyM.slices_Sort_int Try.sortI blk off cap ss W hH hblk hsz),
   fun p cap W => callsIn_wide.2 (AnyM.slices_Sort_int_none Try.sortI p cap W)⟩

/-- maps.Keys. -/
theorem keys_of (b : Nat) (W : World) : Calls Try.prog 68 #[.map (some b)] W fun e w' =>
    e = .returned (.func (.func 78) #[] #[.pointer (some ⟨W.heap.size, 0, none⟩)]) ∧ w' = W.alloc (.cells #[.map (some b)] 46) :=
  callsIn_wide.1 (show CallsIn Fence.wide 5 Try.prog 68 _ _ _ from AnyZI.keys_in Try.keysI Fence.wide 5 trivial rfl (some b) W)

theorem mem_intKeys {w : World} {b k : Nat} {D : DataW Unit} (h : w.ownsMap Try.prog 3 (plainElem Try.prog 4) b k D) (x : Int) : x ∈ intKeys D ↔ has D (.int .i64 x) = true := by
  obtain ⟨es, rfl, hko⟩ := h.keysOf
  rw [has_eq, List.any_eq_true]
  show x ∈ es.map (fun p => Go.intOf p.1) ↔ _
  rw [List.mem_map]
  constructor
  · rintro ⟨p, hp, rfl⟩
    obtain ⟨v, hv⟩ := hko p hp
    obtain ⟨y, _, hy, _⟩ := Maps.keyOf_i64 Try.underlying3 hv
    exact ⟨p, hp, by rw [hy]; simp [Lit.sameKey, Go.intOf]⟩
  · rintro ⟨p, hp, hs⟩
    obtain ⟨v, hv⟩ := hko p hp
    obtain ⟨y, _, hy, _⟩ := Maps.keyOf_i64 Try.underlying3 hv
    rw [hy] at hs
    exact ⟨p, hp, by rw [hy]; simpa [Lit.sameKey, Go.intOf] using hs⟩
theorem nodup_intKeys {w : World} {b k : Nat} {D : DataW Unit} (h : w.ownsMap Try.prog 3 (plainElem Try.prog 4) b k D) : (intKeys D).Nodup := by
  obtain ⟨es, rfl, hko⟩ := h.keysOf
  obtain ⟨es', he, hpw, _⟩ := h.entries intLaw
  injection he with he
  subst he
  show (es.map fun p => Go.intOf p.1).Nodup
  refine List.pairwise_map.2 (hpw.imp_of_mem fun {p q} hp' hq' hne e => hne ?_)
  obtain ⟨v, hv⟩ := hko p hp'
  obtain ⟨y, _, hy, _⟩ := Maps.keyOf_i64 Try.underlying3 hv
  obtain ⟨v2, hv2⟩ := hko q hq'
  obtain ⟨z, _, hz, _⟩ := Maps.keyOf_i64 Try.underlying3 hv2
  rw [hy, hz] at e ⊢
  exact congrArg _ e

/-- slices.Sorted of what maps.Keys handed back. -/
theorem sorted_of (b k : Nat) (S : Int → Prop) (W : World) (h : SetIs W b k S) (hk : k < 17592186044416) :
    Calls Try.prog 67 #[.func (.func 78) #[] #[.pointer (some ⟨W.heap.size, 0, none⟩)]] (W.alloc (.cells #[.map (some b)] 46)) fun e w' => ∃ (v : Value) (zs : List Int), e = .returned v ∧
      zs.Pairwise (fun x y : Int => x < y) ∧ (∀ x, x ∈ zs ↔ S x) ∧ w'.ownsRow W.heap.size 3 1 v zs.length (zs.map (Value.int .i64)) ∧ Below W.heap.size W w' := by
  obtain ⟨D, hown, hD⟩ := h.ex
  have hsz := hown.size_le
  have hbl := hown.lt
  have hb1 : (W.alloc (.cells #[.map (some b)] 46)).heap[b]? = W.heap[b]? := Below.heap_alloc _ _ b hbl
  have hseq : SeqGives Fence.wide 2 Try.prog 78 #[.pointer (some ⟨W.heap.size, 0, none⟩)] encZ (fun ss => ss.Perm (intKeys D)) (Maps.size D) (W.alloc (.cells #[.map (some b)] 46)) :=
    AnyZI.keys_gives (ρ := Try.keysI_ren) { Try.keysI with } Fence.wide _ trivial rfl (by omega) W.heap.size b k D _ (by simp) (by simp) (by
      obtain ⟨es, clock, hb, Ft, hs, hDD⟩ := hown
      exact ⟨es, clock, hb1.trans hb, Ft, hs, hDD⟩)
  have cS := AnyZI.sorted_in Try.sortedI Fence.wide 5 trivial trivial trivial trivial rfl (by omega) (sortsI _) (enters_of Try.func61 (by kernel_rfl) rfl) 78 #[.pointer (some ⟨W.heap.size, 0, none⟩)] trivial (enters_of Try.func78 (by kernel_rfl) rfl) _ _ (by unfold maxLen; omega) (by omega) _ hseq
  change CallsIn _ _ Try.prog 67 _ _ _ at cS
  refine (callsIn_wide.1 cS).mono ?_
  rintro e w' ⟨v, ss, rfl, hS, hrow, hnil, hb⟩
  have hnd : ss.Nodup := (hS.nodup_iff).2 (nodup_intKeys hown)
  have tr : ∀ a b c : Int, leI a b = true → leI b c = true → leI a c = true := fun a b c h1 h2 => by simp only [leI, decide_eq_true_eq] at *; exact Int.le_trans h1 h2
  have tot : ∀ a b : Int, (leI a b || leI b a) = true := fun a b => by simp only [leI, Bool.or_eq_true, decide_eq_true_eq]; exact Int.le_total a b
  have hperm : (ss.mergeSort leI).Perm ss := List.mergeSort_perm ss leI
  refine ⟨v, ss.mergeSort leI, rfl, ?_, fun x => ?_, ?_, ((Below.refl _ W).alloc (Nat.le_refl _) _).trans (hb.mono (by simp))⟩
  · have h1 := List.pairwise_mergeSort tr tot ss
    have h2 : (ss.mergeSort leI).Nodup := (hperm.nodup_iff).2 hnd
    refine (List.pairwise_and_iff.2 ⟨h1, h2⟩).imp ?_
    rintro a b ⟨h3, h4⟩
    simp only [leI, decide_eq_true_eq] at h3
    omega
  · rw [hperm.mem_iff, hS.mem_iff, mem_intKeys hown, hD]
  · rw [List.length_mergeSort]
    exact own_weaken hrow (by simp)

/-- places, within its loop. -/
structure PIn (w : World) (A0 A1 : Option Addr) (n c0 m c1 : Nat) (tell : S48 → Int × Bool) (l1 : List S48) (k : Nat) (wr : World) : Prop where
  set : SetIs wr (w.heap.size + 1) k (fun x => ∃ t ∈ l1.take k, (tell t).2 = true ∧ twoB n t = true ∧ (tell t).1 = x)
  on : Below w.heap.size w wr
  box : wr.heap[w.heap.size]? = some (.cells #[.slice A0 n c0, .slice A1 m c1] 25 (0, 0))
theorem PIn.keep {w wr wq : World} {A0 A1 : Option Addr} {n c0 m c1 : Nat} {tell : S48 → Int × Bool} {l1 : List S48} {k : Nat} (h : PIn w A0 A1 n c0 m c1 tell l1 k wr) (hb : Below wr.heap.size wr wq) : PIn w A0 A1 n c0 m c1 tell l1 k wq where
  set := h.set.keep (hb.block _ h.set.lt)
  on := h.on.trans (hb.mono h.on.size)
  box := (hb.block _ (by have := h.set.lt; omega)).trans h.box

/-- What the layer's closures are asked to be. -/
def Tells (g : Nat) (lb : Array Value) (tell : S48 → Int × Bool) (w : World) : Prop :=
  ∀ t W, Below w.heap.size w W → Calls Try.prog g (#[tieV t] ++ lb) W fun e w' => e = .returned (.tuple #[.int .i64 (tell t).1, .bool (tell t).2]) ∧ Below W.heap.size W w'

set_option maxRecDepth 100000 in
theorem places_of (A0 A1 : Option Addr) (c0 c1 : Nat) (l0 : List S68) (l1 : List S48) (g : Nat) (lb : Array Value) (tell : S48 → Int × Bool) (w : World)
    (eg : ∀ args w, (callFunc g args).run Try.prog w = .ok (.enter g args) w) (ht : Tells g lb tell w) (hr : ∀ t, twoB l0.length t = true → (tell t).2 = true → 0 ≤ (tell t).1 ∧ (tell t).1 < (l0.length : Int))
    (h0 : Kd.C k68 w A0 l0.length l0) (hc0 : l0.length ≤ c0) (h1 : Kd.C k48 w A1 l1.length l1) (hc1 : l1.length ≤ c1) (hl : l1.length < 17592186044416) :
    Calls Try.prog 44 #[.agg #[.slice A0 l0.length c0, .slice A1 l1.length c1], .func (.func g) #[] lb] w fun e w' => ∃ v, e = .returned v ∧
      Kd.R (Kd.int .i64) 3 w' w.heap.size (fun _ => True) v (tiesOf l0.length l1 tell) ∧ Below w.heap.size w w' := by
  obtain ⟨n, hn⟩ : ∃ n, n = l0.length := ⟨_, rfl⟩
  obtain ⟨m, hm⟩ : ∃ m, m = l1.length := ⟨_, rfl⟩
  have HN := Lib.hid hn
  have HM := Lib.hid hm
  have hmm := @run_makeMap Try.prog
  have H0 := Lib.hid h0
  have H1 := Lib.hid h1
  have HT := Lib.hid ht
  have HR := Lib.hid hr
  rw [← hn] at hc0 HR ⊢
  rw [← hm] at hc1 hl ⊢
  clear hn hm h0 h1 ht hr
  go_enter Try.func44, Try.ntmps44
  go_wp2_with fail
  have HI : Hid (PIn w A0 A1 n c0 m c1 tell l1 0 ((w.alloc (.cells #[.slice A0 n c0, .slice A1 m c1] 25)).alloc (.map #[] 0))) := by
    refine ⟨?_, ((Below.refl w.heap.size w).alloc (Nat.le_refl _) _).alloc (by simp) _, ?_⟩
    · have := (SetIs.made (w.alloc (.cells #[.slice A0 n c0, .slice A1 m c1] 25))).imp (S' := fun x => ∃ t ∈ l1.take 0, (tell t).2 = true ∧ twoB n t = true ∧ (tell t).1 = x) (fun x => by simp)
      simpa using this
    · exact (Below.heap_alloc _ _ w.heap.size (by simp)).trans (blk_new w _)
  go_loopw [7, 8, 9, 14] (fun _ _ _ i wr => ∃ k : Nat, k ≤ m ∧ i = .int .i64 (k : Int) ∧ Hid (PIn w A0 A1 n c0 m c1 tell l1 k wr)) (fun _ _ _ i _ => m - (intOf i).toNat)
  case atStart => exact ⟨0, Nat.zero_le _, rfl, HI⟩
  case round =>
    obtain ⟨k, hkm, rfl, HI⟩ := hrel
    by_cases hk : k < m
    · have hc1k : (k : Int) < (m : Int) := by omega
      obtain ⟨t, ht⟩ : ∃ t, l1[k]? = some t := ⟨_, List.getElem?_eq_getElem (by have := HM.out; omega)⟩
      obtain ⟨ad, rfl, a0, a1, a2, a3⟩ := at_T48 (by have := Kd.C_below H1.out HI.out.on; exact this) (k : Int) (by omega) (by have := HM.out; omega)
      have ht' : rd_T48 l1 (k : Int) = t := by show l1.getD _ _ = t; rw [List.getD_eq_getElem?_getD]; simp [ht]
      rw [ht', Int.toNat_natCast] at a0 a1 a2 a3
      have HTK := Lib.hid ht
      clear ht ht'
      obtain ⟨t0, t1, t2, t3⟩ := t
      go_wp2_with fail
      have HI1 := Lib.hid (HI.out.keep (below_alloc (Below.refl wr.heap.size wr) (.cells #[.int .i64 t0, .int .i64 t1, .int .i64 t2, .int .i64 t3] 48)))
      have HBK := Lib.hid (blk_new wr (.cells #[.int .i64 t0, .int .i64 t1, .int .i64 t2, .int .i64 t3] 48))
      refine (HT.out ⟨t0, t1, t2, t3⟩ _ HI1.out.on).mono ?_
      rintro e w2 ⟨rfl, hb2⟩
      have HI2 := Lib.hid (HI1.out.keep hb2)
      have HBK2 := Lib.hid ((hb2.block wr.heap.size (by simp)).trans HBK.out)
      have d0 := blkc HBK2.out 0
      have d1 := blkc HBK2.out 1
      have d2 := blkc HBK2.out 2
      have d3 := blkc HBK2.out 3
      change _ = some (Value.int .i64 t0) at d0
      change _ = some (Value.int .i64 t1) at d1
      change _ = some (Value.int .i64 t2) at d2
      change _ = some (Value.int .i64 t3) at d3
      have b0 := blkc HI2.out.box 0
      have b1 := blkc HI2.out.box 1
      change _ = some (Value.slice A0 n c0) at b0
      change _ = some (Value.slice (some ad) m c1) at b1
      have HTW := Lib.hid (two_of A0 (some ad) c0 c1 n m ⟨t0, t1, t2, t3⟩ l0 l1 w2 (Kd.C_below H0.out HI2.out.on) (by rw [← HN.out]; exact hc0) (Kd.C_below H1.out HI2.out.on) (by rw [← HM.out]; exact hc1))
      rw [← HN.out, ← HM.out] at HTW
      have HRK := Lib.hid (HR.out ⟨t0, t1, t2, t3⟩)
      have hstep : ∀ x, (∃ t ∈ l1.take (k + 1), (tell t).2 = true ∧ twoB n t = true ∧ (tell t).1 = x) ↔ ((∃ t ∈ l1.take k, (tell t).2 = true ∧ twoB n t = true ∧ (tell t).1 = x) ∨ ((tell ⟨t0, t1, t2, t3⟩).2 = true ∧ twoB n ⟨t0, t1, t2, t3⟩ = true ∧ (tell ⟨t0, t1, t2, t3⟩).1 = x)) := by
        intro x
        rw [List.take_add_one, HTK.out]
        simp only [Option.toList_some, List.mem_append, List.mem_singleton]
        constructor
        · rintro ⟨t, h | rfl, h2⟩
          · exact .inl ⟨t, h, h2⟩
          · exact .inr h2
        · rintro (⟨t, h, h2⟩ | h2)
          · exact ⟨t, .inl h, h2⟩
          · exact ⟨_, .inr rfl, h2⟩
      have HS := Lib.hid hstep
      obtain ⟨K, hK⟩ : ∃ K, K = (tell ⟨t0, t1, t2, t3⟩).1 := ⟨_, rfl⟩
      obtain ⟨IS, hIS⟩ : ∃ IS, IS = (tell ⟨t0, t1, t2, t3⟩).2 := ⟨_, rfl⟩
      obtain ⟨TW, hTW⟩ : ∃ TW, TW = twoB n ⟨t0, t1, t2, t3⟩ := ⟨_, rfl⟩
      rw [← hK, ← hIS, ← hTW] at HS
      rw [← hK, ← hIS, ← hTW] at HRK
      rw [← hTW] at HTW
      rw [← hK, ← hIS]
      have hwk : IntKind.i64.wrap ((k : Int) + 1) = (k : Int) + 1 := IntWalk.i64_in _ (by omega)
      clear hstep hb2 hK hIS hTW a0 a1 a2 a3 HI1 HBK HI
      cases IS with
      | false =>
        go_wp2_with fail
        go_roundw
        case rel => exact ⟨k + 1, by omega, rfl, ⟨(HI2.out.set.mono (Nat.le_succ k)).imp (fun x => ((HS.out x).trans (by simp)).symm), HI2.out.on, HI2.out.box⟩⟩
        case measure => simp [intOf]; omega
      | true =>
        go_wp2_with fail
        refine (HTW.out).mono ?_
        rintro e w3 ⟨rfl, hb3⟩
        have HI3 := Lib.hid (HI2.out.keep hb3)
        clear hb3 d0 d1 d2 d3 b0 b1
        cases TW with
        | false =>
          go_wp2_with fail
          go_roundw
          case rel => exact ⟨k + 1, by omega, rfl, ⟨(HI3.out.set.mono (Nat.le_succ k)).imp (fun x => ((HS.out x).trans (by simp)).symm), HI3.out.on, HI3.out.box⟩⟩
          case measure => simp [intOf]; omega
        | true =>
          obtain ⟨D, hown, hD⟩ := HI3.out.set.ex
          have HD := Lib.hid hD
          have HOW := Lib.hid hown
          have h7 : 0 ≤ K ∧ K < (n : Int) := by simpa using HRK.out
          have h9 : l0.length ≤ 9223372036854775807 := H0.out.2.1
          have h10 : n = l0.length := HN.out
          have hkey : keyOf Try.prog 3 (.int .i64 K) = some (.int .i64 K) := keyOf_int_mk Try.underlying3 (WalkArith.wf_i64 (by omega))
          clear h7 h9 h10
          clear hD hown
          go_wp2_with (at_mapUpdate; refine wpList_mapUpdate_own _ rfl _ _ _ 46 rfl 3 4 intLaw Try.underlying46 _ (w.heap.size + 1) k D rfl HOW.out (by unfold maxLen; omega) _ _ _ rfl rfl hkey _ [] (plainElem_bool Try.underlying4 true) ?_; intro w4 hown4 hg4)
          go_roundw
          case rel =>
            refine ⟨k + 1, by omega, rfl, ⟨⟨_, hown4, fun x => ?_⟩, HI3.out.on.grown hg4 HI3.out.on.size (fun j hj => by injection hj with hj; omega), ?_⟩⟩
            · rw [HS.out x]
              by_cases hx : x = K
              · subst hx
                rw [has_put_same HOW.out.isMap (show WideAt.IsKeyLit (.int .i64 x) from trivial)]
                simp
              · rw [has_put_other (by intro e; injection e with _ e; exact hx e), HD.out x]
                constructor
                · exact fun h => .inl h
                · rintro (h | ⟨_, _, h⟩)
                  · exact h
                  · exact absurd h.symm hx
            · rw [hg4.block _ (by have := HI3.out.set.lt; omega) (by intro e; injection e with e; omega)]
              exact HI3.out.box
          case measure => simp [intOf]; omega
    · obtain rfl : k = m := by omega
      have hc1k : ¬ ((k : Int) < (k : Int)) := by omega
      go_wp2_with fail
      refine (keys_of (w.heap.size + 1) wr).mono ?_
      rintro e w2 ⟨rfl, rfl⟩
      go_wp2_with fail
      refine (sorted_of (w.heap.size + 1) k _ wr HI.out.set hl).mono ?_
      rintro e w3 ⟨v, zs, rfl, hp, hS, hown, hb⟩
      have HP := Lib.hid hp
      have HS := Lib.hid hS
      have HO := Lib.hid (own_weaken hown HI.out.on.size)
      have HB := Lib.hid (HI.out.on.trans (hb.mono HI.out.on.size))
      clear hp hS hown hb
      go_wp2_with fail
      go_ret
      have hz : zs = tiesOf n l1 tell := by
        refine sorted_ext HP.out (pick_sorted _ _) (fun x => ?_)
        rw [HS.out x]
        unfold tiesOf
        rw [mem_pick]
        constructor
        · rintro ⟨t, h1, h2, h3, h4⟩
          rw [List.take_of_length_le (by have := HM.out; omega)] at h1
          obtain ⟨h5, h6⟩ := HR.out t h3 h2
          rw [h4] at h5 h6
          obtain ⟨i, rfl⟩ := Int.eq_ofNat_of_zero_le h5
          exact ⟨i, by omega, List.any_eq_true.2 ⟨t, h1, by simp [h2, h3, h4]⟩, rfl⟩
        · rintro ⟨i, hi, h1, rfl⟩
          obtain ⟨t, h2, h3⟩ := List.any_eq_true.1 h1
          simp only [Bool.and_eq_true, decide_eq_true_eq] at h3
          exact ⟨t, by rw [List.take_of_length_le (by have := HM.out; omega)]; exact h2, h3.1.1, h3.1.2, h3.2⟩
      exact ⟨v, rfl, by rw [← hz]; exact Kd.R_of_own HO.out (fun _ _ => trivial), HB.out⟩
end Go.Proofs.Ytofgaeiihclokaa.P
