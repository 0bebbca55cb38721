/- Halves: Compact walks (the method). No conditions beyond those typed. -/
import Derived.Test.YtngcdkbnljoodaaGreatDoorMrgC
import Derived.Lib.ItoaLen
namespace Go.Proofs.YtngcdkbnljoodaaGreatDoor
set_option linter.unusedVariables false
set_option linter.unusedSimpArgs false
open Go.RowKit Go.Proofs.YtngcdkbnljoodaaGreatDoorW.PrintWords

def wideL (sn : List Bs) : Bool := sn.any (fun x => decide (398 < x.length))
def ageB (a : Int) : Bs := [103, 32] ++ Lib.itoa a
def snB (x : Bs) : Bs := [115, 32] ++ x
/-- What a snapshot lays. -/
def recsL (a : Int) (sn : List Bs) : List Bs := (ageB a :: sn.map snB) ++ [liveB]
/-- A snapshot is made. -/
def HT.compact (H : HT) (sn : List Bs) : HT × Int :=
  if wideL sn = true then (H, 3)
  else if 999999999999999999 ≤ H.age then (H, 4)
  else if H.down = true then (H, 16)
  else if (freshS H.J.s ((1 - H.use) * (H.J.s.n / 2)) (H.J.s.n / 2) (recsL (H.age + 1) sn)).2 = 0 then
    ({ H with J := (freshS H.J.s ((1 - H.use) * (H.J.s.n / 2)) (H.J.s.n / 2) (recsL (H.age + 1) sn)).1, use := 1 - H.use, age := H.age + 1, sn := sn, tl := [] }, 0)
  else ({ H with J := { H.J with s := (freshS H.J.s ((1 - H.use) * (H.J.s.n / 2)) (H.J.s.n / 2) (recsL (H.age + 1) sn)).1.s }, down := (freshS H.J.s ((1 - H.use) * (H.J.s.n / 2)) (H.J.s.n / 2) (recsL (H.age + 1) sn)).2 == 16 }, (freshS H.J.s ((1 - H.use) * (H.J.s.n / 2)) (H.J.s.n / 2) (recsL (H.age + 1) sn)).2)
theorem own_single (w : World) (v : Value) (t : TypeId) (base : Nat) (h : base ≤ w.heap.size) : (w.alloc (.cells #[v] t)).ownsRow base t 1 (.slice (some ⟨w.heap.size, 0, none⟩) 1 1) 1 [v] :=
  ⟨rfl, Or.inr ⟨w.heap.size, 1, #[v], rfl, h, blk_new w _, Nat.le_refl _, by decide, rfl, rfl⟩⟩
theorem HalIs.store {w w' : World} {B : HB} {p b : Nat} {H : HT} (h : HalIs w B p b H) (ho : Only [p, b] w w') {s' : St} (hs : StoreIs w' p b s') (hn : s'.n = H.J.s.n) : HalIs w' B p b { H with J := { H.J with s := s' } } := by
  obtain ⟨vs, vt, hb, hr, h1, h2⟩ := h.ex
  have hnot : ∀ {x : Nat} {t : TypeId}, (∃ cs f, w.heap[x]? = some (.cells cs t f)) → t ≠ 54 → t ≠ 88 → x ∉ [p, b] := fun hx e1 e2 hm => by
    simp at hm
    rcases hm with e | e
    · exact ty_ne hx h.st.typeP e1 e
    · exact ty_ne hx h.st.typeB e2 e
  have hk := h.ok
  refine ⟨hs, by show 4 ≤ s'.n; rw [hn]; exact h.n4, h.u1, ⟨vs, vt, ho.blk hb (hnot ⟨_, _, hb⟩ (by decide) (by decide)), ⟨own_keep hr.s ho (fun g hg => hnot (own_type hr.s hg) (by decide) (by decide)), own_keep hr.t ho (fun g hg => hnot (own_type hr.t hg) (by decide) (by decide)), hr.ne⟩, h1, h2⟩, ?_, ?_, h.r1, h.ag, h.sl, h.tll⟩
  · show JnIs w' B.j B.rb p (H.use * (s'.n / 2)) (s'.n / 2) H.J.l H.J.fin H.J.o
    rw [hn]
    exact h.jn.only ho (hnot h.jn.typeJ (by decide) (by decide)) (fun g hg => hnot (h.jn.typeR hg) (by decide) (by decide))
  · show JS.Ok (H.use * (s'.n / 2)) (s'.n / 2) { H.J with s := s' }
    rw [hn]
    have hh := hk.has
    exact ⟨hs.wf, by unfold St.Has at hh ⊢; show _ ∧ _ ≤ s'.n; rw [hn]; exact hh, hk.fin, hk.len⟩
theorem own_rowA {w : World} {base p b n : Nat} {v : Value} {l : List Bs} {s : St} (h : w.ownsRow base 9 1 v n (l.map strV)) (hn : n = l.length) (hs : StoreIs w p b s) : RowA w v l p b := by
  subst hn
  rcases own_cells h with ⟨rfl, rfl⟩ | ⟨g, cap, rfl, _, hc⟩
  · exact ⟨none, 0, rfl, fun k x hx => by simp at hx⟩
  · have hg := own_type h (g := g) rfl
    exact ⟨_, cap, rfl, fun k x hx => ⟨_, rfl, ty_ne hg hs.typeP (by decide), ty_ne hg hs.typeB (by decide), by rw [addr_add0]; exact hc k x hx⟩⟩
theorem row3_keep {S : List Nat} {w w' : World} {a : Option Addr} {l : List Bs} (hc : ∀ k x, l[k]? = some x → ∃ ad, a = some ad ∧ ad.block ∉ S ∧ w.cell? (ad.add k) = some (strV x)) (ho : Only S w w') : RowC w' a l := fun k x hx => by
  obtain ⟨ad, hp, h1, hq⟩ := hc k x hx
  refine ⟨ad, hp, ?_⟩
  have hlt : (ad.add k).block < w.heap.size := by
    rcases Nat.lt_or_ge (ad.add k).block w.heap.size with h | h
    · exact h
    · unfold World.cell? at hq
      rw [Array.getElem?_eq_none h] at hq
      simp at hq
  exact (World.cell?_of_block (ho.block _ hlt (fun hm => h1 ((add_blk ad k) ▸ hm)))).trans hq
def CoOut (w wc : World) (p b : Nat) (s0 : St) (pf nb : Nat) (rs : List Bs) (po : Option Addr) (c : Int) : Prop :=
  Only [p, b] w wc ∧ StoreIs wc p b (freshS s0 pf nb rs).1.s ∧ c = (freshS s0 pf nb rs).2 ∧
    (c = 0 → ∃ j rb, po = some ⟨j, 0, none⟩ ∧ w.heap.size ≤ j ∧ (∀ g, rb = some g → w.heap.size ≤ g) ∧ JnIs wc j rb p pf nb (freshS s0 pf nb rs).1.l (freshS s0 pf nb rs).1.fin (freshS s0 pf nb rs).1.o)
theorem CoOut.of {w w6 w7 : World} {p b : Nat} {s0 : St} {pf nb : Nat} {rs : List Bs} {po : Option Addr} (ho : Only [] w w6) (h1 : Only [p, b] w6 w7) (h2 : StoreIs w7 p b (freshS s0 pf nb rs).1.s)
    (h3 : (freshS s0 pf nb rs).2 = 0 → ∃ j rb, po = some ⟨j, 0, none⟩ ∧ w6.heap.size ≤ j ∧ (∀ g, rb = some g → w6.heap.size ≤ g) ∧ JnIs w7 j rb p pf nb (freshS s0 pf nb rs).1.l (freshS s0 pf nb rs).1.fin (freshS s0 pf nb rs).1.o) : CoOut w w7 p b s0 pf nb rs po (freshS s0 pf nb rs).2 := by
  refine ⟨(ho.mono (by simp)).tr h1, h2, rfl, fun h0 => ?_⟩
  obtain ⟨j, rb, e, hj, hr, hn⟩ := h3 h0
  have := ho.size
  exact ⟨j, rb, e, by omega, fun g hg => by have := hr g hg; omega, hn⟩
/-- The end of a snapshot. -/
theorem compact_fin {w wc w8 : World} {B : HB} {p b O : Nat} {H : HT} {G : Int} {sn : List Bs} {j : Nat} {rb : Option Nat} {va : Value} (h : HalIs w B p b H) (hw : CoOut w wc p b H.J.s (O * (H.J.s.n / 2)) (H.J.s.n / 2) (recsL G sn) (some ⟨j, 0, none⟩) 0) (hO : O = 1 - H.use)
    (hj : w.heap.size ≤ j) (hrb : ∀ g, rb = some g → w.heap.size ≤ g) (hjn : JnIs wc j rb p (O * (H.J.s.n / 2)) (H.J.s.n / 2) (freshS H.J.s (O * (H.J.s.n / 2)) (H.J.s.n / 2) (recsL G sn)).1.l (freshS H.J.s (O * (H.J.s.n / 2)) (H.J.s.n / 2) (recsL G sn)).1.fin (freshS H.J.s (O * (H.J.s.n / 2)) (H.J.s.n / 2) (recsL G sn)).1.o)
    (hG : 1 ≤ G ∧ G ≤ 9223372036854775807) (ho8 : Only [] ((wc.setCell ⟨B.h, 1, none⟩ (.int .i64 O)).setCell ⟨B.h, 5, none⟩ (.pointer (some ⟨j, 0, none⟩))) w8) (hown : w8.ownsRow wc.heap.size 9 1 va sn.length (sn.map strV)) :
    (∃ a2 a3 a4, w8.cell? ⟨B.h, 2, none⟩ = some a2 ∧ w8.cell? ⟨B.h, 3, none⟩ = some a3 ∧ w8.cell? ⟨B.h, 4, none⟩ = some a4) ∧ w8.frozen? ⟨B.h, 2, none⟩ = false ∧ w8.frozen? ⟨B.h, 3, none⟩ = false ∧ w8.frozen? ⟨B.h, 4, none⟩ = false ∧
      Only ([p, b] ++ B.own) w (((w8.setCell ⟨B.h, 2, none⟩ (.int .i64 G)).setCell ⟨B.h, 3, none⟩ va).setCell ⟨B.h, 4, none⟩ (.slice none 0 0)) ∧
      (∀ x, x ∈ ({ B with j := j, rb := rb, bs := va.ownBlock, bt := none } : HB).own → x ∈ B.own ∨ w.heap.size ≤ x) ∧
      HalIs (((w8.setCell ⟨B.h, 2, none⟩ (.int .i64 G)).setCell ⟨B.h, 3, none⟩ va).setCell ⟨B.h, 4, none⟩ (.slice none 0 0)) { B with j := j, rb := rb, bs := va.ownBlock, bt := none } p b
        { H with J := (freshS H.J.s (O * (H.J.s.n / 2)) (H.J.s.n / 2) (recsL G sn)).1, use := O, age := G, sn := sn, tl := [] } := by
  obtain ⟨hoc, hsc, hc0, _⟩ := hw
  have hlw := hal_lt h
  have hhas : H.J.s.Has (O * (H.J.s.n / 2)) (H.J.s.n / 2) := half_has (by omega) h.n4
  obtain ⟨hok, hn⟩ := fresh_ok h.st.wf hhas (recsL G sn)
  have hall := fresh_all hc0.symm
  have hbh : B.h < w.heap.size := hlw _ (by simp [HB.own])
  obtain ⟨vs, vt, hb, hbc⟩ : ∃ vs vt, w.heap[B.h]? = some (.cells (halC p H.use H.age vs vt (some ⟨B.j, 0, none⟩) H.down) 66 (0, 0)) ∧ wc.heap[B.h]? = some (.cells (halC p H.use H.age vs vt (some ⟨B.j, 0, none⟩) H.down) 66 (0, 0)) := by
    obtain ⟨vs, vt, hb, _⟩ := h.ex
    refine ⟨vs, vt, hb, hoc.blk hb ?_⟩
    have n1 := ty_ne h.st.typeP ⟨_, _, hb⟩ (by decide)
    have n2 := ty_ne h.st.typeB ⟨_, _, hb⟩ (by decide)
    simp
    exact ⟨fun e => n1 e.symm, fun e => n2 e.symm⟩
  have hb8 := ho8.blk (blk_set (blk_set hbc 1 (.int .i64 O)) 5 (.pointer (some ⟨j, 0, none⟩))) (by simp)
  have hs1 : Only [B.h] wc ((wc.setCell ⟨B.h, 1, none⟩ (.int .i64 O)).setCell ⟨B.h, 5, none⟩ (.pointer (some ⟨j, 0, none⟩))) := ((Only.refl _ _).setCell (p := ⟨B.h, 1, none⟩) (Or.inl (by simp)) _).setCell (p := ⟨B.h, 5, none⟩) (Or.inl (by simp)) _
  have hs2 : Only [B.h] w8 (((w8.setCell ⟨B.h, 2, none⟩ (.int .i64 G)).setCell ⟨B.h, 3, none⟩ va).setCell ⟨B.h, 4, none⟩ (.slice none 0 0)) := (((Only.refl _ _).setCell (p := ⟨B.h, 2, none⟩) (Or.inl (by simp)) _).setCell (p := ⟨B.h, 3, none⟩) (Or.inl (by simp)) _).setCell (p := ⟨B.h, 4, none⟩) (Or.inl (by simp)) _
  have hall8 : Only [B.h] wc (((w8.setCell ⟨B.h, 2, none⟩ (.int .i64 G)).setCell ⟨B.h, 3, none⟩ va).setCell ⟨B.h, 4, none⟩ (.slice none 0 0)) := (hs1.tr (ho8.mono (by simp))).tr hs2
  have hst8 : ∀ g, g ∈ [B.h] → ∃ cs t f, w8.heap[g]? = some (.cells cs t f) ∧ t ≠ 9 := fun g hg => by rw [List.mem_singleton.1 hg]; exact ⟨_, _, _, hb8, by decide⟩
  have hown2 := own_of_only hown hs2 hst8
  have hgv : ∀ g, va.ownBlock = some g → wc.heap.size ≤ g := fun g hg => (hown.lt g hg).1
  refine ⟨⟨_, _, _, blk_cell hb8 2, blk_cell hb8 3, blk_cell hb8 4⟩, blk_frozen hb8 2, blk_frozen hb8 3, blk_frozen hb8 4, ?_, ?_, ?_⟩
  · refine (hoc.mono (fun x hx => List.mem_append.2 (Or.inl hx))).tr (hall8.mono (fun x hx => ?_))
    rw [List.mem_singleton.1 hx]; simp [HB.own]
  · intro x hx
    simp only [HB.own, List.mem_append, List.mem_cons, List.not_mem_nil, or_false, Option.mem_toList, Option.mem_def] at hx
    rcases hx with (rfl | rfl) | hx | hx | hx
    · exact Or.inl (by simp [HB.own])
    · exact Or.inr hj
    · exact Or.inr (hrb x hx)
    · have := hgv x hx; have := hoc.size; right; omega
    · cases hx
  · have hn2 : (freshS H.J.s (O * (H.J.s.n / 2)) (H.J.s.n / 2) (recsL G sn)).1.s.n = H.J.s.n := hn
    refine ⟨hsc.only hall8 (by simp; exact ty_ne h.st.typeP ⟨_, _, hb⟩ (by decide)) (by simp; exact ty_ne h.st.typeB ⟨_, _, hb⟩ (by decide)), by show 4 ≤ _; rw [hn2]; exact h.n4, by show O ≤ 1; omega,
      ⟨va, .slice none 0 0, blk_set (blk_set (blk_set hb8 2 (.int .i64 G)) 3 va) 4 (.slice none 0 0), ⟨own_mono hown2 (Nat.zero_le _), World.ownsRow_nil _ _ _ _, fun x _ e => by cases e⟩, rfl, rfl⟩, ?_, ?_, ?_, hG, ?_, Nat.zero_le _⟩
    · show JnIs _ j rb p (O * (_ / 2)) (_ / 2) _ _ _
      rw [hn2]
      exact hjn.only hall8 (by simp; intro e; omega) (fun g hg => by have := hrb g hg; simp; intro e; omega)
    · show JS.Ok (O * (_ / 2)) (_ / 2) _
      rw [hn2]
      exact hok
    · intro x hx
      refine ⟨fun e => ?_, fun e => by cases e⟩
      have := hgv x e
      have := (hjn.away hsc).2.2.2 x hx
      omega
    · show sn.length ≤ (freshS H.J.s (O * (H.J.s.n / 2)) (H.J.s.n / 2) (recsL G sn)).1.l.length
      rw [hall]
      unfold recsL
      simp
      omega
/-- While a snapshot's records are gathered. -/
structure CoIn (w wq : World) (a : Int) (sn : List Bs) (q : Nat) (v : Value) : Prop where
  own : wq.ownsRow w.heap.size 9 1 v (q + 1) ((ageB a :: (sn.take q).map snB).map strV)
  on : Only [] w wq
set_option maxHeartbeats 4000000 in
set_option maxRecDepth 100000 in
theorem compact_of {w : World} {B : HB} {p b : Nat} {H : HT} (h : HalIs w B p b H) (hvar : Vars w) {v : Value} {sn : List Bs} (hv : RowA w v sn p b) (hv2 : RowA w v sn B.h B.h) (hl : sn.length ≤ 10000) (hx : ∀ x ∈ sn, x.length ≤ 140737488355328) :
    Calls Tryz.prog 12 #[.pointer (some ⟨B.h, 0, none⟩), v] w (HapPost B p b (H.compact sn).1 (H.compact sn).2 w) := by
  obtain ⟨a, cap, rfl, hc⟩ := hv
  have HC3 : Hid (∀ k x, sn[k]? = some x → ∃ ad, a = some ad ∧ ad.block ∉ [p, b, B.h] ∧ w.cell? (ad.add k) = some (strV x)) := fun k x hx => by
    obtain ⟨a', c', he, hc'⟩ := hv2
    injection he with e1 e2 e3
    subst e1
    obtain ⟨ad, rfl, h1, h2, h3⟩ := hc k x hx
    obtain ⟨ad2, e, h4, _, _⟩ := hc' k x hx
    cases e
    exact ⟨ad, rfl, by simp; exact ⟨h1, h2, h4⟩, h3⟩
  have HI := Lib.hid h
  clear hv2
  have HC := Lib.hid hc
  have HX := Lib.hid hx
  have HRC : Hid (RowC w a sn) := fun k x hk => by obtain ⟨ad, h1, _, _, h4⟩ := hc k x hk; exact ⟨ad, h1, h4⟩
  have HCF := Lib.hid (containsfunc_of (cap := cap) HRC.out (by omega) hx)
  rw [show sn.any (fun x => decide (398 < x.length)) = wideL sn from rfl] at HCF
  obtain ⟨M, hM⟩ : ∃ M, M = sn.length := ⟨_, rfl⟩
  rw [← hM] at hl HCF ⊢
  have HM := Lib.hid hM
  have HV := Lib.hid hvar
  clear hM hc hx hvar
  by_cases hwd : wideL sn = true
  · have HA : Hid (H.compact sn = (H, 3)) := by show _ = _; unfold HT.compact; rw [if_pos hwd]
    rw [hwd] at HCF
    clear h
    go_enter Tryz.func12, Tryz.ntmps12
    go_wp2_with fail
    refine (HCF.out).mono ?_
    rintro e w2 ⟨rfl, hw2⟩
    subst w2
    go_wp2_with fail
    go_ret
    rw [HA.out]
    exact HapPost.same HI.out
  · have hwf : wideL sn = false := by cases e : wideL sn; rfl; exact absurd e hwd
    rw [hwf] at HCF
    obtain ⟨a1, n1, q1, a2, n2, q2, hb, hr, h1, h2⟩ := h.cells
    have c2 : w.cell? ⟨B.h, 2, none⟩ = some (.int .i64 H.age) := blk_cell hb 2
    have c6 : w.cell? ⟨B.h, 6, none⟩ = some (.bool H.down) := blk_cell hb 6
    by_cases hag : 999999999999999999 ≤ H.age
    · have HA : Hid (H.compact sn = (H, 4)) := by show _ = _; unfold HT.compact; rw [if_neg hwd, if_pos hag]
      clear h hb hr h1 h2
      go_enter Tryz.func12, Tryz.ntmps12
      go_wp2_with fail
      refine (HCF.out).mono ?_
      rintro e w2 ⟨rfl, hw2⟩
      subst w2
      go_wp2_with fail
      go_ret
      rw [HA.out]
      exact HapPost.same HI.out
    · have hag2 : H.age < 999999999999999999 := by omega
      by_cases hdn : H.down = true
      · have HA : Hid (H.compact sn = (H, 16)) := by show _ = _; unfold HT.compact; rw [if_neg hwd, if_neg hag, if_pos hdn]
        rw [hdn] at c6
        clear h hb hr h1 h2
        go_enter Tryz.func12, Tryz.ntmps12
        go_wp2_with fail
        refine (HCF.out).mono ?_
        rintro e w2 ⟨rfl, hw2⟩
        subst w2
        go_wp2_with fail
        go_ret
        rw [HA.out]
        exact HapPost.same HI.out
      · have hdf : H.down = false := by cases e : H.down; rfl; exact absurd e hdn
        rw [hdf] at c6
        have hage := h.ag
        obtain ⟨G, hG⟩ : ∃ G : Int, G = H.age + 1 := ⟨_, rfl⟩
        have hg1 : H.age + 1 = G := hG.symm
        have hg2 : IntKind.i64.wrap G = G := IntWalk.i64_in _ (by omega)
        have HA : Hid (H.compact sn = if (freshS H.J.s ((1 - H.use) * (H.J.s.n / 2)) (H.J.s.n / 2) (recsL G sn)).2 = 0 then
            ({ H with J := (freshS H.J.s ((1 - H.use) * (H.J.s.n / 2)) (H.J.s.n / 2) (recsL G sn)).1, use := 1 - H.use, age := G, sn := sn, tl := [] }, 0)
          else ({ H with J := { H.J with s := (freshS H.J.s ((1 - H.use) * (H.J.s.n / 2)) (H.J.s.n / 2) (recsL G sn)).1.s }, down := (freshS H.J.s ((1 - H.use) * (H.J.s.n / 2)) (H.J.s.n / 2) (recsL G sn)).2 == 16 }, (freshS H.J.s ((1 - H.use) * (H.J.s.n / 2)) (H.J.s.n / 2) (recsL G sn)).2)) := by
          show _ = _
          unfold HT.compact
          rw [if_neg hwd, if_neg hag, if_neg hdn, hg1]
        have HIT := Lib.hid (Tryz.strconv_Itoa G (by omega) (by omega) w HV.out.tab)
        obtain ⟨IT, hIT⟩ : ∃ IT : ByteArray, IT = ⟨(Lib.itoa G).toArray⟩ := ⟨_, rfl⟩
        rw [← hIT] at HIT
        have hITs : IT.size ≤ 100 := by rw [hIT]; show (Lib.itoa G).toArray.size ≤ 100; rw [List.size_toArray]; have := Lib.itoa_length_le G (by omega) (by omega); omega
        obtain ⟨GB, hGB⟩ : ∃ GB : ByteArray, GB = { data := #[103, 32] } ++ IT := ⟨_, rfl⟩
        have HGB : Hid (Value.string GB = strV (ageB G)) := by show _ = _; rw [hGB, hIT]; unfold strV ageB; congr 1
        have hrun : ∀ W : World, (Op.stringOp .add { data := #[103, 32] } IT).run Tryz.prog W = .ok (.string GB) W := fun W => by rw [hGB]; exact run_string_add_sum W _ IT (by show 2 + IT.size ≤ _; omega)
        have HGG : Hid (G = H.age + 1 ∧ 2 ≤ G ∧ G ≤ 999999999999999999) := ⟨hG, by omega, by omega⟩
        have hX398 : Hid (∀ x ∈ sn, x.length ≤ 398) := fun x hx => by
          rcases Nat.lt_or_ge 398 x.length with h9 | h9
          · exact absurd (show wideL sn = true from List.any_eq_true.2 ⟨x, hx, decide_eq_true h9⟩) hwd
          · exact h9
        clear h hb hr h1 h2 hdn hdf hag hwd hwf hG hIT hGB hage
        go_enter Tryz.func12, Tryz.ntmps12
        go_wp2_with fail
        refine (HCF.out).mono ?_
        rintro e w2 ⟨rfl, hw2⟩
        subst w2
        go_wp2_with fail
        refine (HIT.out).mono ?_
        rintro e w3 ⟨rfl, k3, os3, rfl⟩
        have HO3 : Hid (Only [] w («Sort».grow (w.drewN k3) os3)) := Only.of_below ((Below.refl _ _).trans (Go.Lib.below_grow _ _ (Nat.le_refl _) k3 os3))
        generalize «Sort».grow (w.drewN k3) os3 = w3 at *
        go_wp2_with fail
        have HQ : Hid (CoIn w (w3.alloc (.cells #[.string GB] 9)) G sn 0 (.slice (some ⟨w3.heap.size, 0, none⟩) 1 1)) := ⟨by rw [HGB.out]; exact own_single w3 _ _ _ HO3.out.size, HO3.out.alloc _⟩
        go_loopw [5, 36] (fun rv iv wq => ∃ (q : Nat), iv = .int .i64 (q : Int) ∧ q ≤ M ∧ Hid (CoIn w wq G sn q rv)) (fun _ iv _ => M - (intOf iv).toNat)
        case atStart => exact ⟨0, rfl, Nat.zero_le _, HQ⟩
        case round =>
          clear HQ
          obtain ⟨q, rfl, hq, HQ⟩ := hrel
          by_cases hqM : q < M
          · obtain ⟨x, hx⟩ : ∃ x, sn[q]? = some x := ⟨_, List.getElem?_eq_getElem (by have := HM.out; omega)⟩
            obtain ⟨ad, rfl, _, _, hcx⟩ := rowA_keep (S := []) (by simp) HC.out HQ.out.on q x hx
            unfold strV at hcx
            have d1 : (q : Int) < (M : Int) := by omega
            have d0 : (0 : Int) ≤ (q : Int) := by omega
            have hwr : IntKind.i64.wrap ((q : Int) + 1) = (q : Int) + 1 := IntWalk.i64_in _ (by omega)
            have hxl := hX398.out x (List.mem_of_getElem? hx)
            obtain ⟨SB, hSB⟩ : ∃ SB : ByteArray, SB = { data := #[115, 32] } ++ mkS x := ⟨_, rfl⟩
            have hrun2 : ∀ W : World, (Op.stringOp .add { data := #[115, 32] } (mkS x)).run Tryz.prog W = .ok (.string SB) W := fun W => by rw [hSB]; exact run_string_add_sum W _ (mkS x) (by rw [size_mkS]; show 2 + x.length ≤ _; omega)
            have HSB : Hid (Value.string SB = strV (snB x)) := by show _ = _; rw [hSB]; unfold strV snB; congr 1
            have HTK : Hid (sn.take (q + 1) = sn.take q ++ [x]) := by
              obtain ⟨h1, h2⟩ := List.getElem?_eq_some_iff.1 hx
              show _ = _
              rw [List.take_succ_eq_append_getElem h1, h2]
            have HOWN := Lib.hid (own_keep HQ.out.own ((Only.refl [] wr).alloc (.cells #[.string SB] 9)) (by simp))
            obtain ⟨i0, hi, hz0, hz1, hz2⟩ := info_parts string_info
            clear hx hSB
            go_wp2_with (at_builtin; refine wpList_append_own_at _ rfl _ _ 37 rfl w.heap.size 9 i0 (.string ByteArray.empty) 1 16 Tryz.underlying37 hi hz0 hz1 hz2 rfl (by decide) _ _ _ rfl HOWN.out ⟨wr.heap.size, 0, none⟩ 1 1 [.string SB] rfl rfl ?c1 ?c2 ?c3 ?c4 ?c5 ?_)
            case c1 => exact news_one wr _ _
            case c2 => intro u hu; simp at hu; subst hu; rfl
            case c3 => have := hl; unfold maxLen; omega
            case c4 => have := hl; omega
            case c5 => have := HQ.out.on.size; simp; omega
            intro v6 w6 hown6 hgrow6 hnil6 hat6
            have HQ6 : Hid (CoIn w w6 G sn (q + 1) v6) := by
              refine ⟨?_, (HQ.out.on.alloc _).grown hgrow6 (fun k hk => Or.inr (HQ.out.own.lt k hk).1)⟩
              rw [HTK.out, List.map_append, ← List.cons_append, List.map_append]
              rw [HSB.out] at hown6
              exact (by simpa using hown6)
            clear hown6 hgrow6 hnil6 hat6
            go_wp2_with fail
            go_roundw
            case rel => exact ⟨q + 1, rfl, by omega, HQ6⟩
            case measure => simp [intOf]; omega
          · have d1 : ¬ (q : Int) < (M : Int) := by omega
            have hqe : q = M := by omega
            have HQF : Hid (wr.ownsRow w.heap.size 9 1 u5 (M + 1) ((ageB G :: sn.map snB).map strV)) := by
              have := HQ.out.own
              rw [hqe, List.take_of_length_le (by have := HM.out; omega)] at this
              exact this
            have HOF := Lib.hid HQ.out.on
            clear HQ hqe
            have HI2 := Lib.hid (HI.out.keep HOF.out)
            obtain ⟨b1, m1, r1, b2, m2, r2, hb, hr, h1, h2⟩ := HI2.out.cells
            have c0' : wr.cell? ⟨B.h, 0, none⟩ = some (.pointer (some ⟨p, 0, none⟩)) := blk_cell hb 0
            have c1' : wr.cell? ⟨B.h, 1, none⟩ = some (.int .i64 H.use) := blk_cell hb 1
            have c0a : (wr.alloc (.cells #[.string { data := #[108, 105, 118, 101] }] 9)).cell? ⟨B.h, 0, none⟩ = some (.pointer (some ⟨p, 0, none⟩)) := blk_cell (blk_alloc hb _) 0
            have c1a : (wr.alloc (.cells #[.string { data := #[108, 105, 118, 101] }] 9)).cell? ⟨B.h, 1, none⟩ = some (.int .i64 H.use) := blk_cell (blk_alloc hb _) 1
            clear hb hr h1 h2
            obtain ⟨O, hO⟩ : ∃ O : Nat, O = 1 - H.use := ⟨_, rfl⟩
            have hu1 := HI.out.u1
            have o1 : (1 : Int) - (H.use : Int) = (O : Int) := by omega
            have o2 : IntKind.i64.wrap (O : Int) = (O : Int) := IntWalk.i64_in _ (by omega)
            have HO := Lib.hid hO
            obtain ⟨i0, hi, hz0, hz1, hz2⟩ := info_parts string_info
            have HFRE : Hid (∀ (w6 : World) (g9 cap9 : Nat), w6.ownsRow w.heap.size 9 1 (.slice (some ⟨g9, 0, none⟩) (M + 1 + 1) cap9) (M + 1 + 1) ((ageB G :: sn.map snB).map strV ++ [.string { data := #[108, 105, 118, 101] }]) → Only [] w w6 →
                Calls Tryz.prog 33 #[.pointer (some ⟨p, 0, none⟩), .int .i64 (O : Int), .slice (some ⟨g9, 0, none⟩) (M + 1 + 1) cap9] w6 (FreshPost H.J.s p b (O * (H.J.s.n / 2)) (H.J.s.n / 2) (recsL G sn) w6)) := by
              intro w6 g9 cap9 h6 ho6
              have hs6 := HI.out.st.only ho6 (by simp) (by simp)
              have hrl : (recsL G sn).length = M + 1 + 1 := by unfold recsL; simp [HM.out]
              have h4 := HI.out.n4
              have hrow : RowA w6 (.slice (some ⟨g9, 0, none⟩) (M + 1 + 1) cap9) (recsL G sn) p b := own_rowA (l := recsL G sn) (by unfold recsL; rw [List.map_append]; exact h6) hrl.symm hs6
              refine fresh_of hs6 (by omega) O _ _ (by have := HO.out; omega) rfl rfl hrow (by omega) (fun x hx => ?_)
              unfold recsL at hx
              simp only [List.cons_append, List.mem_cons, List.mem_append, List.mem_map, List.not_mem_nil, or_false] at hx
              rcases hx with rfl | ⟨y, hy, rfl⟩ | rfl
              · have := Lib.itoa_length_le G (by have := HGG.out; omega) (by have := HGG.out; omega)
                unfold ageB
                rw [List.length_append]
                simp
                omega
              · have := hX398.out y hy
                unfold snB
                rw [List.length_append]
                simp
                omega
              · decide
            have HSZ := Lib.hid HOF.out.size
            have HBK := Lib.hid HI.out.ex
            clear hO hu1
            have HROW := Lib.hid (fun (W : World) (hW : Only [] wr W) => own_keep HQF.out hW (by simp))
            go_upto_region 13 with (fail)
            go_cut [8, 9] (fun jv ev wc => ∃ (po : Option Addr) (c : Int), jv = .pointer po ∧ ev = .int .i64 c ∧ Hid (CoOut w wc p b H.J.s (O * (H.J.s.n / 2)) (H.J.s.n / 2) (recsL G sn) po c))
            case first =>
              go_region_law (first | (refine step_append_lies _ (by rfl) _ _ 37 (by rfl) w.heap.size 9 i0 (.string ByteArray.empty) 1 16 Tryz.underlying37 hi hz0 hz1 hz2 rfl (by decide) u5 _ _ (by rfl) (HROW.out _ (((Only.refl [] wr).drew).alloc _)) ⟨wr.heap.size, 0, none⟩ 1 1 [.string { data := #[108, 105, 118, 101] }] (by rfl) rfl (news_one wr _ _) (by intro u hu; simp at hu; subst hu; rfl) (by decide) (by have := hl; unfold maxLen; omega) (by have := hl; omega) (by have := HSZ.out; simp; first | done | omega) (wr.heap.size + 1) (by simp) ?_; intro g9 cap9 w6 hown6 hgrow6 hat6 hlt6; have ho6 : Only [] w w6 := ((HOF.out.drew).alloc _).grown hgrow6 (fun k hk => Or.inr (HQF.out.lt k hk).1); have HF6 := Lib.hid (HFRE.out w6 g9 cap9 hown6 ho6); have HI6 := Lib.hid (HI.out.keep ho6); have HO6 := Lib.hid ho6; have e0 : w6.cell? ⟨B.h, 0, none⟩ = some (.pointer (some ⟨p, 0, none⟩)) := (by obtain ⟨_, _, hb6, _⟩ := HI6.out.ex; exact blk_cell hb6 0); have e1 : w6.cell? ⟨B.h, 1, none⟩ = some (.int .i64 H.use) := (by obtain ⟨_, _, hb6, _⟩ := HI6.out.ex; exact blk_cell hb6 1); clear hown6 hgrow6 hat6 hlt6 ho6) | (go_simp; go_at_call 33; refine (HF6.out).mono ?_; rintro e w7 ⟨ho7, hst7, po, rfl, hjn7⟩; have HO7 := Lib.hid ho7; have HS7 := Lib.hid hst7; have HJ7 := Lib.hid hjn7; clear ho7 hst7 hjn7))
              all_goals go_wp2_with fail
              all_goals go_meet
              all_goals exact ⟨_, _, rfl, rfl, CoOut.of HO6.out HO7.out HS7.out HJ7.out⟩
            case rest =>
              obtain ⟨po, c, rfl, rfl, HCO⟩ := hcut
              have hn7 : (freshS H.J.s (O * (H.J.s.n / 2)) (H.J.s.n / 2) (recsL G sn)).1.s.n = H.J.s.n := (fresh_ok HI.out.st.wf (half_has (by have := HO.out; omega) HI.out.n4) (recsL G sn)).2
              have HI7 := Lib.hid (HI.out.store HCO.out.1 HCO.out.2.1 hn7)
              obtain ⟨x1, y1, z1, x2, y2, z2, hb7, _, _, _⟩ := HI7.out.cells
              have d1c : wc.cell? ⟨B.h, 1, none⟩ = some (.int .i64 H.use) := blk_cell hb7 1
              have d2c : wc.cell? ⟨B.h, 2, none⟩ = some (.int .i64 H.age) := blk_cell hb7 2
              have d5c : wc.cell? ⟨B.h, 5, none⟩ = some (.pointer (some ⟨B.j, 0, none⟩)) := blk_cell hb7 5
              have d6c : wc.cell? ⟨B.h, 6, none⟩ = some (.bool H.down) := blk_cell hb7 6
              have f1c : wc.frozen? ⟨B.h, 1, none⟩ = false := blk_frozen hb7 1
              have f5c : wc.frozen? ⟨B.h, 5, none⟩ = false := blk_frozen hb7 5
              have f6c : wc.frozen? ⟨B.h, 6, none⟩ = false := blk_frozen hb7 6
              have HOE : Hid (O = 1 - H.use) := HO.out
              clear hb7 hn7 HROW HFRE HQF HI2 c0' c1' c0a c1a HCF HIT HGB hrun HC HRC HX HO
              rw [← HOE.out] at HA
              by_cases hc0 : c = 0
              · subst hc0
                obtain ⟨j, rb, rfl, hj, hrb, hjn⟩ := HCO.out.2.2.2 rfl
                have HJ := Lib.hid hj
                have HRB := Lib.hid hrb
                have HJN := Lib.hid hjn
                have HCL : Hid (∀ W, Only [] ((wc.setCell ⟨B.h, 1, none⟩ (.int .i64 O)).setCell ⟨B.h, 5, none⟩ (.pointer (some ⟨j, 0, none⟩))) W → Calls Tryz.prog 44 #[.slice a M cap] W fun e w' => ∃ v', e = .returned v' ∧ w'.ownsRow W.heap.size 9 1 v' sn.length (sn.map strV) ∧ Below W.heap.size W w') := fun W hW => by
                  have ho : Only [p, b, B.h] w W := ((((HCO.out.1.mono (T := [p, b, B.h]) (by intro x h; simp at h ⊢; rcases h with h | h; exact Or.inl h; exact Or.inr (Or.inl h))).setCell (p := ⟨B.h, 1, none⟩) (Or.inl (by simp)) _).setCell (p := ⟨B.h, 5, none⟩) (Or.inl (by simp)) _).tr (hW.mono (by simp)))
                  have := clone_row (cap := cap) (row3_keep HC3.out ho) (by have := HM.out; omega)
                  rw [← HM.out] at this
                  rw [← HM.out]
                  exact this
                have HA0 : Hid (H.compact sn = ({ H with J := (freshS H.J.s (O * (H.J.s.n / 2)) (H.J.s.n / 2) (recsL G sn)).1, use := O, age := G, sn := sn, tl := [] }, 0)) := by show _ = _; rw [HA.out, if_pos HCO.out.2.2.1.symm]
                have HFN : Hid (∀ W w9 v', Only [] ((wc.setCell ⟨B.h, 1, none⟩ (.int .i64 O)).setCell ⟨B.h, 5, none⟩ (.pointer (some ⟨j, 0, none⟩))) W → w9.ownsRow W.heap.size 9 1 v' sn.length (sn.map strV) → Below W.heap.size W w9 → _) := fun W w9 v' hW hown hb9 => compact_fin (w8 := w9) (va := v') HI.out HCO.out HOE.out hj hrb hjn (by have := HGG.out; omega) (hW.tr (Only.of_below hb9)) (own_mono hown (by have := hW.size; simpa using this))
                clear hj hrb hjn HA
                go_wp2_with fail
                have HSL : Hid (∀ w9 : World, Only [] ((wc.setCell ⟨B.h, 1, none⟩ (.int .i64 O)).setCell ⟨B.h, 5, none⟩ (.pointer (some ⟨j, 0, none⟩))) w9 → w9.cell? ⟨B.h, 2, none⟩ = some (.int .i64 H.age)) := fun w9 ho => by
                  obtain ⟨x1, y1, z1, x2, y2, z2, hb7, _, _, _⟩ := HI7.out.cells
                  exact blk_cell (ho.blk (blk_set (blk_set hb7 1 (.int .i64 O)) 5 (.pointer (some ⟨j, 0, none⟩))) (by simp)) 2
                go_region_law (go_simp; go_at_call 44; refine (HCL.out _ (by first | exact (Only.refl [] _).drew | exact Only.refl [] _)).mono ?_; rintro e w9 ⟨v9, rfl, hown9, hb9⟩; obtain ⟨a9, n9, q9, rfl⟩ := own_slice hown9; have hf9 := HFN.out _ w9 _ (by first | exact (Only.refl [] _).drew | exact Only.refl [] _) hown9 hb9; have e2 := HSL.out w9 ((by first | exact (Only.refl [] _).drew | exact Only.refl [] _ : Only [] ((wc.setCell ⟨B.h, 1, none⟩ (.int .i64 O)).setCell ⟨B.h, 5, none⟩ (.pointer (some ⟨j, 0, none⟩))) _).tr (Only.of_below hb9)); obtain ⟨⟨b2v, b3v, b4v, g2, g3, g4⟩, k2, k3, k4, hf9⟩ := hf9; have HF9 := Lib.hid hf9; clear hown9 hb9 hf9)
                all_goals go_wp2_with fail
                all_goals go_ret
                all_goals rw [HA0.out]
                all_goals exact ⟨rfl, HF9.out.1, { B with j := j, rb := rb, bs := (Value.slice a9 n9 q9).ownBlock, bt := none }, rfl, HF9.out.2.1, HF9.out.2.2⟩
              · have hcb : (c == 0) = false := beq_eq_false_iff_ne.mpr hc0
                have HA0 : Hid (H.compact sn = ({ H with J := { H.J with s := (freshS H.J.s (O * (H.J.s.n / 2)) (H.J.s.n / 2) (recsL G sn)).1.s }, down := c == 16 }, c)) := by show _ = _; rw [HA.out, if_neg (by rw [← HCO.out.2.2.1]; exact hc0), ← HCO.out.2.2.1]
                have HI8 := Lib.hid (HI7.out.setDown (c == 16))
                have HO8 : Hid (Only ([p, b] ++ B.own) w (wc.setCell ⟨B.h, 6, none⟩ (.bool (c == 16)))) := (HCO.out.1.mono (fun x hx => List.mem_append.2 (Or.inl hx))).setCell (p := ⟨B.h, 6, none⟩) (Or.inl (by simp [HB.own])) _
                clear HA
                go_wp2_with fail
                go_ret
                rw [HA0.out]
                exact ⟨rfl, HO8.out, B, rfl, fun x hx => Or.inl hx, HI8.out⟩
end Go.Proofs.YtngcdkbnljoodaaGreatDoor

