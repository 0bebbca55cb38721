/- Halves: what is told, and Append. No conditions beyond those typed. Halves: Append walks. No conditions beyond those typed. Halves: Compact walks. No conditions beyond those typed. -/
import Derived.Test.YtngcdkbnljoodaaGreatDoorHalE
namespace Go.Proofs.YtngcdkbnljoodaaGreatDoor
set_option linter.unusedVariables false
set_option linter.unusedSimpArgs false
open Go.RowKit Go.Proofs.YtngcdkbnljoodaaGreatDoorW.PrintWords

theorem hal_lt {w : World} {B : HB} {p b : Nat} {H : HT} (h : HalIs w B p b H) : ∀ x, x ∈ [p, b] ++ B.own → x < w.heap.size := by
  intro x hx
  obtain ⟨vs, vt, hb, hr, h1, h2⟩ := h.ex
  have hj := h.jn.away h.st
  have hs := h.st.lt
  unfold HB.own at hx
  simp only [List.mem_append, List.mem_cons, List.not_mem_nil, or_false, Option.mem_toList, Option.mem_def] at hx
  rcases hx with (rfl | rfl) | (rfl | rfl) | hx | hx | hx
  · exact hs.1
  · exact hs.2
  · exact blk_lt hb
  · exact hj.2.2.1
  · exact hj.2.2.2 x hx
  · exact (hr.s.lt x (h1.trans hx)).2
  · exact (hr.t.lt x (h2.trans hx)).2
theorem HalIs.only {S : List Nat} {w w' : World} {B : HB} {p b : Nat} {H : HT} (h : HalIs w B p b H) (ho : Only S w w') (hp : p ∉ S) (hb : b ∉ S) (hS : ∀ x, x ∈ B.own → x ∉ S) : HalIs w' B p b H := by
  obtain ⟨vs, vt, hbl, hr, h1, h2⟩ := h.ex
  unfold HB.own at hS
  simp only [List.mem_append, List.mem_cons, List.not_mem_nil, or_false, Option.mem_toList, Option.mem_def] at hS
  exact ⟨h.st.only ho hp hb, h.n4, h.u1, ⟨vs, vt, ho.blk hbl (hS _ (Or.inl (Or.inl rfl))), ⟨own_keep hr.s ho (fun g hg => hS g (Or.inr (Or.inr (Or.inl (h1.symm.trans hg))))), own_keep hr.t ho (fun g hg => hS g (Or.inr (Or.inr (Or.inr (h2.symm.trans hg))))), hr.ne⟩, h1, h2⟩,
    h.jn.only ho (hS _ (Or.inl (Or.inr rfl))) (fun g hg => hS g (Or.inr (Or.inl hg))), h.ok, h.r1, h.ag, h.sl, h.tll⟩
theorem HalIs.keep {w w' : World} {B : HB} {p b : Nat} {H : HT} (h : HalIs w B p b H) (ho : Only [] w w') : HalIs w' B p b H := h.only ho (by simp) (by simp) (fun _ _ => by simp)
/-- Halves' cells. -/
theorem HalIs.cells {w : World} {B : HB} {p b : Nat} {H : HT} (h : HalIs w B p b H) : ∃ a1 n1 q1 a2 n2 q2, w.heap[B.h]? = some (.cells (halC p H.use H.age (.slice a1 n1 q1) (.slice a2 n2 q2) (some ⟨B.j, 0, none⟩) H.down) 66 (0, 0)) ∧ Rows2 0 w (.slice a1 n1 q1) (.slice a2 n2 q2) H.sn H.tl ∧
    (Value.slice a1 n1 q1).ownBlock = B.bs ∧ (Value.slice a2 n2 q2).ownBlock = B.bt := by
  obtain ⟨vs, vt, hb, hr, h1, h2⟩ := h.ex
  obtain ⟨a1, n1, q1, rfl⟩ := own_slice hr.s
  obtain ⟨a2, n2, q2, rfl⟩ := own_slice hr.t
  exact ⟨a1, n1, q1, a2, n2, q2, hb, hr, h1, h2⟩
theorem HalIs.few {w : World} {B : HB} {p b : Nat} {H : HT} (h : HalIs w B p b H) : H.sn.length ≤ 10000 ∧ H.tl.length ≤ 10000 ∧ H.J.l.length ≤ 10000 ∧ H.J.s.n / 2 ≤ 128 := by
  have h1 := h.sl
  have h2 := h.tll
  have h3 := h.ok.len
  have h4 := h.ok.fin
  have h5 := h.ok.wf.hi
  exact ⟨by omega, by omega, by omega, by omega⟩
set_option maxHeartbeats 2000000 in
theorem snapshot_of {w : World} {B : HB} {p b : Nat} {H : HT} (h : HalIs w B p b H) : Calls Tryz.prog 24 #[.pointer (some ⟨B.h, 0, none⟩)] w fun e w' => ∃ v, e = .returned v ∧ w'.ownsRow w.heap.size 9 1 v H.sn.length (H.sn.map strV) ∧ Only [] w w' := by
  obtain ⟨a1, n1, q1, a2, n2, q2, hb, hr, h1, h2⟩ := h.cells
  have c3 : w.cell? ⟨B.h, 3, none⟩ = some (.slice a1 n1 q1) := blk_cell hb 3
  have HC := Lib.hid (clone_of hr.s (by have := h.few; omega))
  clear h hb hr h1 h2
  go_enter Tryz.func24, Tryz.ntmps24
  go_wp2_with fail
  refine (HC.out).mono ?_
  rintro e w' ⟨v', rfl, ho, hb⟩
  have HO := Lib.hid ho
  have HB := Lib.hid hb
  clear ho hb
  go_wp2_with fail
  go_ret
  exact ⟨v', rfl, HO.out, Only.of_below HB.out⟩
set_option maxHeartbeats 2000000 in
theorem tail_of {w : World} {B : HB} {p b : Nat} {H : HT} (h : HalIs w B p b H) : Calls Tryz.prog 25 #[.pointer (some ⟨B.h, 0, none⟩)] w fun e w' => ∃ v, e = .returned v ∧ w'.ownsRow w.heap.size 9 1 v H.tl.length (H.tl.map strV) ∧ Only [] w w' := by
  obtain ⟨a1, n1, q1, a2, n2, q2, hb, hr, h1, h2⟩ := h.cells
  have c3 : w.cell? ⟨B.h, 4, none⟩ = some (.slice a2 n2 q2) := blk_cell hb 4
  have HC := Lib.hid (clone_of hr.t (by have := h.few; omega))
  clear h hb hr h1 h2
  go_enter Tryz.func25, Tryz.ntmps25
  go_wp2_with fail
  refine (HC.out).mono ?_
  rintro e w' ⟨v', rfl, ho, hb⟩
  have HO := Lib.hid ho
  have HB := Lib.hid hb
  clear ho hb
  go_wp2_with fail
  go_ret
  exact ⟨v', rfl, HO.out, Only.of_below HB.out⟩
theorem hage_of {w : World} {B : HB} {p b : Nat} {H : HT} (h : HalIs w B p b H) : Calls Tryz.prog 26 #[.pointer (some ⟨B.h, 0, none⟩)] w fun e w' => e = .returned (.int .i64 H.age) ∧ Only [] w w' := by
  obtain ⟨a1, n1, q1, a2, n2, q2, hb, hr, h1, h2⟩ := h.cells
  have c2 : w.cell? ⟨B.h, 2, none⟩ = some (.int .i64 H.age) := blk_cell hb 2
  clear h hb hr h1 h2
  go_enter Tryz.func26, Tryz.ntmps26
  go_wp2_with fail
  go_ret
  exact ⟨rfl, Only.refl _ _⟩
theorem hroom_of {w : World} {B : HB} {p b : Nat} {H : HT} (h : HalIs w B p b H) : Calls Tryz.prog 27 #[.pointer (some ⟨B.h, 0, none⟩)] w fun e w' => e = .returned (.int .i64 (32 * ((H.J.s.n / 2 : Nat) : Int) - (H.J.fin : Int))) ∧ Only [] w w' := by
  obtain ⟨a1, n1, q1, a2, n2, q2, hb, hr, h1, h2⟩ := h.cells
  have c5 : w.cell? ⟨B.h, 5, none⟩ = some (.pointer (some ⟨B.j, 0, none⟩)) := blk_cell hb 5
  have HC := Lib.hid (room_of h.jn (by have := h.few; omega) h.ok.fin)
  clear h hb hr h1 h2
  go_enter Tryz.func27, Tryz.ntmps27
  go_wp2_with fail
  refine (HC.out).mono ?_
  rintro e w' ⟨rfl, k, rfl⟩
  go_wp2_with fail
  go_ret
  exact ⟨rfl, (Only.refl _ _).drewN _⟩
/-- A record is appended. -/
def HT.append (H : HT) (r : Bs) : HT × Int :=
  if 398 < r.length then (H, 3)
  else if H.down = true then (H, 16)
  else if (H.J.app (H.use * (H.J.s.n / 2)) (H.J.s.n / 2) ([116, 32] ++ r)).2 = 0 then ({ H with J := (H.J.app (H.use * (H.J.s.n / 2)) (H.J.s.n / 2) ([116, 32] ++ r)).1, tl := H.tl ++ [r] }, 0)
  else if (H.J.app (H.use * (H.J.s.n / 2)) (H.J.s.n / 2) ([116, 32] ++ r)).2 = 16 then ({ H with J := (H.J.app (H.use * (H.J.s.n / 2)) (H.J.s.n / 2) ([116, 32] ++ r)).1, down := true }, 16)
  else ({ H with J := (H.J.app (H.use * (H.J.s.n / 2)) (H.J.s.n / 2) ([116, 32] ++ r)).1 }, (H.J.app (H.use * (H.J.s.n / 2)) (H.J.s.n / 2) ([116, 32] ++ r)).2)
theorem JS.app_l (pf nb : Nat) (A : JS) (t : Bs) : (A.app pf nb t).1.l = A.l ∨ (A.app pf nb t).1.l = A.l ++ [t] := by
  unfold JS.app
  split
  · exact Or.inl rfl
  · split
    · exact Or.inl rfl
    · split
      · exact Or.inl rfl
      · split
        · exact Or.inr rfl
        · exact Or.inl rfl
theorem JS.app_l0 {pf nb : Nat} {A : JS} {t : Bs} (h : (A.app pf nb t).2 = 0) : (A.app pf nb t).1.l = A.l ++ [t] := by
  unfold JS.app at h ⊢
  split at h
  · simp at h
  · split at h
    · simp at h
    · split at h
      · simp at h
      · split at h
        · rename_i h1 h2 h3 h4
          rw [if_neg h1, if_neg h2, if_neg h3, if_pos h4]
        · rename_i h4; exact absurd h h4
/-- The journal in halves gets a record. -/
theorem hal_japp {w : World} {B : HB} {p b : Nat} {H : HT} (h : HalIs w B p b H) (d : ByteArray) : Calls Tryz.prog 39 #[.pointer (some ⟨B.j, 0, none⟩), .string d] w fun e w' =>
    e = .returned (.int .i64 (H.J.app (H.use * (H.J.s.n / 2)) (H.J.s.n / 2) d.data.toList).2) ∧ Only ([p, b] ++ (B.j :: B.rb.toList)) w w' ∧
      ∃ rb', (∀ g, rb' = some g → B.rb = some g ∨ w.heap.size ≤ g) ∧ HalIs w' { B with rb := rb' } p b { H with J := (H.J.app (H.use * (H.J.s.n / 2)) (H.J.s.n / 2) d.data.toList).1 } := by
  refine (app_any h.st h.jn h.ok d).mono ?_
  rintro e w' ⟨he, hO, hst, rb', hrb, hjn⟩
  obtain ⟨vs, vt, hb, hr, h1, h2⟩ := h.ex
  obtain ⟨hok, hn⟩ := JS.app_ok h.ok d.data.toList
  have hlen : H.J.l.length ≤ (H.J.app (H.use * (H.J.s.n / 2)) (H.J.s.n / 2) d.data.toList).1.l.length := by
    rcases JS.app_l (H.use * (H.J.s.n / 2)) (H.J.s.n / 2) H.J d.data.toList with e1 | e1
    · rw [e1]; exact Nat.le_refl _
    · rw [e1, List.length_append]; omega
  have ht : ∀ x, x ∈ [p, b] ++ (B.j :: B.rb.toList) → ∃ cs u f, w.heap[x]? = some (.cells cs u f) ∧ u ≠ 66 := by
    intro x hx
    simp only [List.mem_append, List.mem_cons, List.not_mem_nil, or_false, Option.mem_toList, Option.mem_def] at hx
    rcases hx with (rfl | rfl) | rfl | hx
    · obtain ⟨cs, f, e⟩ := h.st.typeP; exact ⟨cs, _, f, e, by decide⟩
    · obtain ⟨cs, f, e⟩ := h.st.typeB; exact ⟨cs, _, f, e, by decide⟩
    · obtain ⟨cs, f, e⟩ := h.jn.typeJ; exact ⟨cs, _, f, e, by decide⟩
    · obtain ⟨cs, f, e⟩ := h.jn.typeR hx; exact ⟨cs, _, f, e, by decide⟩
  have hnr : ∀ v : Value, ∀ xs : List Value, ∀ n, w.ownsRow 0 9 1 v n xs → (∀ x, B.rb = some x → v.ownBlock ≠ some x) → ∀ g, v.ownBlock = some g → g ∉ [p, b] ++ (B.j :: B.rb.toList) := by
    intro v xs n hv hne g hg hm
    have hty := own_type hv hg
    simp only [List.mem_append, List.mem_cons, List.not_mem_nil, or_false, Option.mem_toList, Option.mem_def] at hm
    rcases hm with (e | e) | e | hx
    · exact ty_ne hty (StoreIs.typeP h.st) (by decide) e
    · exact ty_ne hty (StoreIs.typeB h.st) (by decide) e
    · exact ty_ne hty (JnIs.typeJ h.jn) (by decide) e
    · exact hne g hx hg
  have hltS : ∀ g, vs.ownBlock = some g → g < w.heap.size := fun g hg => (hr.s.lt g hg).2
  have hltT : ∀ g, vt.ownBlock = some g → g < w.heap.size := fun g hg => (hr.t.lt g hg).2
  refine ⟨he, hO, rb', hrb, hst, by rw [hn]; exact h.n4, h.u1, ⟨vs, vt, hO.blk hb (ty_not ⟨_, _, hb⟩ ht), ⟨own_keep hr.s hO (hnr vs _ _ hr.s (fun x hx => h1 ▸ (h.r1 x hx).1)), own_keep hr.t hO (hnr vt _ _ hr.t (fun x hx => h2 ▸ (h.r1 x hx).2)), hr.ne⟩, h1, h2⟩,
    by rw [hn]; exact hjn, by rw [hn]; exact hok, ?_, h.ag, Nat.le_trans h.sl hlen, Nat.le_trans h.tll hlen⟩
  intro x hx
  rcases hrb x hx with e | e
  · exact h.r1 x e
  · constructor
    · intro e2; have := hltS x (h1.trans e2); omega
    · intro e2; have := hltT x (h2.trans e2); omega
theorem HalIs.setDown {w : World} {B : HB} {p b : Nat} {H : HT} (h : HalIs w B p b H) (d : Bool) : HalIs (w.setCell ⟨B.h, 6, none⟩ (.bool d)) B p b { H with down := d } := by
  obtain ⟨vs, vt, hb, hr, h1, h2⟩ := h.ex
  have hset : Only [B.h] w (w.setCell ⟨B.h, 6, none⟩ (.bool d)) := (Only.refl _ _).setCell (p := ⟨B.h, 6, none⟩) (Or.inl (by simp)) _
  have ht : ∀ g, g ∈ [B.h] → ∃ cs t f, w.heap[g]? = some (.cells cs t f) ∧ t ≠ 9 := fun g hg => by rw [List.mem_singleton.1 hg]; exact ⟨_, _, _, hb, by decide⟩
  have hj := ty_ne ⟨_, _, hb⟩ (JnIs.typeJ h.jn) (by decide)
  refine ⟨h.st.only hset (by simp; exact ty_ne (StoreIs.typeP h.st) ⟨_, _, hb⟩ (by decide)) (by simp; exact ty_ne (StoreIs.typeB h.st) ⟨_, _, hb⟩ (by decide)), h.n4, h.u1, ⟨vs, vt, blk_set hb 6 _, hr.off hset ht, h1, h2⟩, h.jn.only hset (by simp; exact fun e => hj e.symm) (fun g hg => ?_), h.ok, h.r1, h.ag, h.sl, h.tll⟩
  have := ty_ne (JnIs.typeR h.jn hg) ⟨_, _, hb⟩ (by decide)
  simp; exact this
/-- The tail's row has grown. -/
theorem HalIs.growT {w w' wb : World} {B : HB} {p b : Nat} {H : HT} (h : HalIs w B p b H) (hwb : Only [] w wb) {a2 : Option Addr} {n2 q2 g cap : Nat} {y : Bs} (hbt : (Value.slice a2 n2 q2).ownBlock = B.bt)
    (hown : w'.ownsRow 0 9 1 (.slice (some ⟨g, 0, none⟩) (H.tl.length + 1) cap) (H.tl.length + 1) (H.tl.map strV ++ [strV y])) (hg : wb.grownBy w' (Value.slice a2 n2 q2).ownBlock) (hat : (Value.slice a2 n2 q2).ownBlock = some g ∨ w.heap.size ≤ g) (hll : H.tl.length + 1 ≤ H.J.l.length) :
    (∃ x, w'.cell? ⟨B.h, 4, none⟩ = some x) ∧ w'.frozen? ⟨B.h, 4, none⟩ = false ∧ HalIs (w'.setCell ⟨B.h, 4, none⟩ (.slice (some ⟨g, 0, none⟩) (H.tl.length + 1) cap)) { B with bt := some g } p b { H with tl := H.tl ++ [y] } ∧ Only ([p, b] ++ B.own) w (w'.setCell ⟨B.h, 4, none⟩ (.slice (some ⟨g, 0, none⟩) (H.tl.length + 1) cap)) := by
  obtain ⟨vs, vt, hb, hr, h1, h2⟩ := h.ex
  have ho : Only B.bt.toList w w' := (hwb.mono (by simp)).grown hg (fun x hx => Or.inl (by rw [← hbt, hx]; simp))
  have hm : ∀ x, x ∈ B.bt.toList → B.bt = some x := fun x hx => by simpa using hx
  have hty : ∀ x, x ∈ B.bt.toList → ∃ cs f, w.heap[x]? = some (.cells cs 9 f) := fun x hx => own_type hr.t (h2.trans (hm x hx))
  have hnt : ∀ {z : Nat} {t : TypeId}, (∃ cs f, w.heap[z]? = some (.cells cs t f)) → t ≠ 9 → z ∉ B.bt.toList := fun hz ht hx => ty_ne hz (hty _ hx) ht rfl
  have hb' := ho.blk hb (hnt ⟨_, _, hb⟩ (by decide))
  have hst' := h.st.only ho (hnt h.st.typeP (by decide)) (hnt h.st.typeB (by decide))
  have hjn' := h.jn.only ho (hnt h.jn.typeJ (by decide)) (fun x hx hx2 => (h.r1 x hx).2 (hm x hx2))
  have hs' := own_keep hr.s ho (fun x hx hx2 => hr.ne x hx (h2.trans (hm x hx2)))
  have hset : Only [B.h] w' (w'.setCell ⟨B.h, 4, none⟩ (.slice (some ⟨g, 0, none⟩) (H.tl.length + 1) cap)) := (Only.refl _ _).setCell (p := ⟨B.h, 4, none⟩) (Or.inl (by simp)) _
  have hstt : ∀ x, x ∈ [B.h] → ∃ cs t f, w'.heap[x]? = some (.cells cs t f) ∧ t ≠ 9 := fun x hx => by rw [List.mem_singleton.1 hx]; exact ⟨_, _, _, hb', by decide⟩
  have hgr : ∀ x, (x = g → B.bt = some x ∨ w.heap.size ≤ x) := fun x e => by rw [e]; rcases hat with h3 | h3; exact Or.inl (hbt.symm.trans h3); exact Or.inr h3
  refine ⟨⟨_, blk_cell hb' 4⟩, blk_frozen hb' 4, ⟨hst'.only hset (by simp; exact ty_ne (StoreIs.typeP hst') ⟨_, _, hb'⟩ (by decide)) (by simp; exact ty_ne (StoreIs.typeB hst') ⟨_, _, hb'⟩ (by decide)), h.n4, h.u1,
    ⟨vs, .slice (some ⟨g, 0, none⟩) (H.tl.length + 1) cap, blk_set hb' 4 _, ⟨own_of_only hs' hset hstt, ?_, fun x hx e => ?_⟩, h1, rfl⟩, hjn'.only hset (by simp; exact ty_ne (JnIs.typeJ hjn') ⟨_, _, hb'⟩ (by decide)) (fun x hx => by simp; exact ty_ne (JnIs.typeR hjn' hx) ⟨_, _, hb'⟩ (by decide)), h.ok, fun x hx => ⟨(h.r1 x hx).1, fun e => ?_⟩, h.ag, h.sl, by rw [List.length_append]; exact hll⟩, ?_⟩
  · rw [List.length_append, List.map_append]
    exact own_of_only hown hset hstt
  · simp [Value.ownBlock] at e
    rcases hgr x e.symm with h3 | h3
    · exact hr.ne x hx (h2.trans h3)
    · have := (hr.s.lt x hx).2; omega
  · simp at e
    rcases hgr x e.symm with h3 | h3
    · exact (h.r1 x hx).2 h3
    · have := (h.jn.away h.st).2.2.2 x hx; omega
  · refine ((ho.mono (fun x hx => ?_)).tr (hset.mono (fun x hx => ?_)))
    · simp only [HB.own, List.mem_append]; exact Or.inr (Or.inr (Or.inr (Or.inr hx)))
    · rw [List.mem_singleton.1 hx]; simp [HB.own]
end Go.Proofs.YtngcdkbnljoodaaGreatDoor

namespace Go.Proofs.YtngcdkbnljoodaaGreatDoor
set_option linter.unusedVariables false
set_option linter.unusedSimpArgs false
open Go.RowKit Go.Proofs.YtngcdkbnljoodaaGreatDoorW.PrintWords

def HapPost (B : HB) (p b : Nat) (H : HT) (c : Int) (w : World) (e : Ending) (w' : World) : Prop :=
  e = .returned (.int .i64 c) ∧ Only ([p, b] ++ B.own) w w' ∧ ∃ B' : HB, B'.h = B.h ∧ (∀ x, x ∈ B'.own → x ∈ B.own ∨ w.heap.size ≤ x) ∧ HalIs w' B' p b H
theorem HapPost.same {B : HB} {p b : Nat} {H : HT} {c : Int} {w : World} (h : HalIs w B p b H) : HapPost B p b H c w (.returned (.int .i64 c)) w := ⟨rfl, Only.refl _ _, B, rfl, fun x hx => Or.inl hx, h⟩
theorem jn_sub {p b : Nat} {B : HB} : ∀ x, x ∈ [p, b] ++ (B.j :: B.rb.toList) → x ∈ [p, b] ++ B.own := by
  intro x hx
  simp only [HB.own, List.mem_append, List.mem_cons, List.not_mem_nil, or_false] at hx ⊢
  rcases hx with h | h | h
  · exact Or.inl h
  · exact Or.inr (Or.inl (Or.inr h))
  · exact Or.inr (Or.inr (Or.inl h))
theorem rb_own {B : HB} {rb' : Option Nat} {n : Nat} (hrb : ∀ g, rb' = some g → B.rb = some g ∨ n ≤ g) : ∀ x, x ∈ ({ B with rb := rb' } : HB).own → x ∈ B.own ∨ n ≤ x := by
  intro x hx
  simp only [HB.own, List.mem_append, List.mem_cons, List.not_mem_nil, or_false, Option.mem_toList, Option.mem_def] at hx ⊢
  rcases hx with h | h | h
  · exact Or.inl (Or.inl h)
  · rcases hrb x h with e | e
    · exact Or.inl (Or.inr (Or.inl e))
    · exact Or.inr e
  · exact Or.inl (Or.inr (Or.inr h))
theorem own_some {w : World} {base n : Nat} {v : Value} {xs : List Value} (h : w.ownsRow base 9 1 v n xs) (hn : v ≠ .slice none 0 0) : ∃ g cap, v = .slice (some ⟨g, 0, none⟩) n cap := by
  rcases h.2 with ⟨hv, _⟩ | ⟨g, cap, cur, hv, _⟩
  · exact absurd hv hn
  · exact ⟨g, cap, hv⟩
set_option maxHeartbeats 4000000 in
set_option maxRecDepth 100000 in
theorem happend_of {w : World} {B : HB} {p b : Nat} {H : HT} (h : HalIs w B p b H) (d : ByteArray) (hd : d.size ≤ 140737488355328) :
    Calls Tryz.prog 10 #[.pointer (some ⟨B.h, 0, none⟩), .string d] w (HapPost B p b (H.append d.data.toList).1 (H.append d.data.toList).2 w) := by
  have hdl : d.data.toList.length = d.size := rfl
  have HI := Lib.hid h
  by_cases h398 : (398 : Int) < (d.size : Int)
  · have HA : Hid (H.append d.data.toList = (H, 3)) := by show _ = _; unfold HT.append; rw [if_pos (by omega)]
    clear h hdl hd
    go_enter Tryz.func10, Tryz.ntmps10
    go_wp2_with fail
    go_ret
    rw [HA.out]
    exact HapPost.same HI.out
  · obtain ⟨a1, n1, q1, a2, n2, q2, hb, hr, h1, h2⟩ := h.cells
    have c6 : w.cell? ⟨B.h, 6, none⟩ = some (.bool H.down) := blk_cell hb 6
    have c5 : w.cell? ⟨B.h, 5, none⟩ = some (.pointer (some ⟨B.j, 0, none⟩)) := blk_cell hb 5
    by_cases hdn : H.down = true
    · have HA : Hid (H.append d.data.toList = (H, 16)) := by show _ = _; unfold HT.append; rw [if_neg (by omega), if_pos hdn]
      rw [hdn] at c6
      clear h hdl hd hb hr h1 h2 hdn
      go_enter Tryz.func10, Tryz.ntmps10
      go_wp2_with fail
      go_ret
      rw [HA.out]
      exact HapPost.same HI.out
    · have hdf : H.down = false := by cases e : H.down; rfl; exact absurd e hdn
      rw [hdf] at c6
      obtain ⟨TB, hTB⟩ : ∃ TB : ByteArray, TB = { data := #[116, 32] } ++ d := ⟨_, rfl⟩
      have hTl : TB.data.toList = [116, 32] ++ d.data.toList := by rw [hTB]; simp
      have hrun : ∀ W : World, (Op.stringOp .add { data := #[116, 32] } d).run Tryz.prog W = .ok (.string TB) W := fun W => by rw [hTB]; exact run_string_add_sum W _ d (by show 2 + d.size ≤ _; omega)
      have HJ := Lib.hid (hal_japp h TB)
      obtain ⟨X, hX⟩ : ∃ X, X = H.J.app (H.use * (H.J.s.n / 2)) (H.J.s.n / 2) TB.data.toList := ⟨_, rfl⟩
      rw [← hX] at HJ
      have HA : Hid (H.append d.data.toList = if X.2 = 0 then ({ H with J := X.1, tl := H.tl ++ [d.data.toList] }, 0) else if X.2 = 16 then ({ H with J := X.1, down := true }, 16) else ({ H with J := X.1 }, X.2)) := by
        show _ = _
        unfold HT.append
        rw [if_neg (by omega), if_neg hdn, ← hTl, ← hX]
      have HXL : Hid (X.2 = 0 → X.1.l.length = H.J.l.length + 1) := fun e => by rw [hX] at e ⊢; rw [JS.app_l0 e, List.length_append]; rfl
      obtain ⟨A, c⟩ := X
      have HTL := Lib.hid h.tll
      have HFW := Lib.hid h.few
      have HLT := Lib.hid (hal_lt h)
      clear h hdl hb hr h1 h2 hdn hdf hTl hTB hX
      go_enter Tryz.func10, Tryz.ntmps10
      go_wp2_with fail
      refine (HJ.out).mono ?_
      rintro e w1 ⟨rfl, ho1, rb', hrb1, hi1⟩
      have HO1 : Hid (Only ([p, b] ++ B.own) w w1) := ho1.mono jn_sub
      have HRB : Hid (∀ x, x ∈ ({ B with rb := rb' } : HB).own → x ∈ B.own ∨ w.heap.size ≤ x) := rb_own hrb1
      have HI1 := Lib.hid hi1
      clear ho1 hrb1 hi1 HJ
      by_cases hc0 : c = 0
      · subst hc0
        obtain ⟨a1, n1, q1, a2, n2, q2, hb, hr, h1, h2⟩ := HI1.out.cells
        have d4 : w1.cell? ⟨B.h, 4, none⟩ = some (.slice a2 n2 q2) := blk_cell hb 4
        have k4 : w1.frozen? ⟨B.h, 4, none⟩ = false := blk_frozen hb 4
        have HR := Lib.hid hr.t
        have H2 := Lib.hid h2
        obtain ⟨i0, hi, hz0, hz1, hz2⟩ := info_parts string_info
        clear hb hr h1 h2
        go_wp2_with (at_builtin; refine wpList_append_own_at _ rfl _ _ 37 rfl 0 9 i0 (.string ByteArray.empty) 1 16 Tryz.underlying37 hi hz0 hz1 hz2 rfl (by decide) _ _ _ rfl (own_keep HR.out ((Only.refl [] w1).alloc _) (by simp)) ⟨w1.heap.size, 0, none⟩ 1 1 [.string d] rfl rfl ?c1 ?c2 ?c3 ?c4 ?c5 ?_)
        case c1 => exact news_one w1 _ _
        case c2 => intro u hu; simp at hu; subst hu; rfl
        case c3 => have := HFW.out; unfold maxLen; omega
        case c4 => have := HFW.out; omega
        case c5 => omega
        intro v' w6 hown6 hgrow6 hnil6 hat6
        obtain ⟨g6, cap6, rfl⟩ := own_some hown6 hnil6
        obtain ⟨⟨xw, e1⟩, e2, hi6, ho6⟩ := HI1.out.growT (y := d.data.toList) ((Only.refl [] w1).alloc _) H2.out hown6 hgrow6 (by rcases hat6 with h | h; exact Or.inl h.symm; right; simp [Value.ownBlock] at h; omega) (by have h7 := HXL.out trivial; have h8 := HTL.out; show H.tl.length + 1 ≤ A.l.length; omega)
        have HI6 := Lib.hid hi6
        have HO6 : Hid (Only ([p, b] ++ B.own) w (w6.setCell ⟨B.h, 4, none⟩ (.slice (some ⟨g6, 0, none⟩) (H.tl.length + 1) cap6))) := by
          refine HO1.out.trans ho6 (fun x hx => ?_)
          rcases List.mem_append.1 hx with h | h
          · exact Or.inl (List.mem_append.2 (Or.inl h))
          · rcases HRB.out x h with e | e
            · exact Or.inl (List.mem_append.2 (Or.inr e))
            · exact Or.inr e
        have HG6 : Hid (g6 ∈ B.own ∨ w.heap.size ≤ g6) := by
          rcases hat6 with h | h
          · exact HRB.out g6 (by simp only [HB.own, List.mem_append, Option.mem_toList, Option.mem_def]; exact Or.inr (Or.inr (Or.inr (H2.out.symm.trans h.symm))))
          · right; simp [Value.ownBlock] at h; have := HO1.out.size; omega
        clear hown6 hgrow6 hnil6 hat6 hi6 ho6
        go_wp2_with fail
        go_ret
        rw [HA.out, if_pos trivial]
        refine ⟨rfl, HO6.out, { B with rb := rb', bt := some g6 }, rfl, fun x hx => ?_, HI6.out⟩
        simp only [HB.own, List.mem_append, List.mem_cons, List.not_mem_nil, or_false, Option.mem_toList, Option.mem_def] at hx
        rcases hx with h | h | h | h
        · exact HRB.out x (by simp only [HB.own, List.mem_append, List.mem_cons, List.not_mem_nil, or_false]; exact Or.inl h)
        · exact HRB.out x (by simp only [HB.own, List.mem_append, Option.mem_toList, Option.mem_def]; exact Or.inr (Or.inl h))
        · exact HRB.out x (by simp only [HB.own, List.mem_append, Option.mem_toList, Option.mem_def]; exact Or.inr (Or.inr (Or.inl h)))
        · cases h; exact HG6.out
      · have hb0 : (c == 0) = false := beq_eq_false_iff_ne.mpr hc0
        by_cases hc16 : c = 16
        · subst hc16
          obtain ⟨a1, n1, q1, a2, n2, q2, hb, hr, h1, h2⟩ := HI1.out.cells
          have d6 : w1.cell? ⟨B.h, 6, none⟩ = some (.bool H.down) := blk_cell hb 6
          have k6 : w1.frozen? ⟨B.h, 6, none⟩ = false := blk_frozen hb 6
          have HI6 := Lib.hid (HI1.out.setDown true)
          have HO6 : Hid (Only ([p, b] ++ B.own) w (w1.setCell ⟨B.h, 6, none⟩ (.bool true))) := HO1.out.setCell (p := ⟨B.h, 6, none⟩) (Or.inl (by simp [HB.own])) _
          clear hb hr h1 h2
          go_wp2_with fail
          go_ret
          rw [HA.out, if_neg (by decide), if_pos trivial]
          exact ⟨rfl, HO6.out, { B with rb := rb' }, rfl, HRB.out, HI6.out⟩
        · have hb16 : (c == 16) = false := beq_eq_false_iff_ne.mpr hc16
          go_wp2_with fail
          go_ret
          rw [HA.out, if_neg hc0, if_neg hc16]
          exact ⟨rfl, HO1.out, { B with rb := rb' }, rfl, HRB.out, HI1.out⟩
end Go.Proofs.YtngcdkbnljoodaaGreatDoor

namespace Go.Proofs.YtngcdkbnljoodaaGreatDoor
set_option linter.unusedVariables false
set_option linter.unusedSimpArgs false
open Go.RowKit Go.Proofs.YtngcdkbnljoodaaGreatDoorW.PrintWords

theorem wide_of (s : ByteArray) (hs : s.size ≤ 140737488355328) (W : World) : Calls Tryz.prog 42 #[.string s] W fun e w' => e = .returned (.bool (decide (398 < s.size))) ∧ W = w' := by
  have h1 : decide ((398 : Int) < (s.size : Int)) = decide (398 < s.size) := by rw [Bool.eq_iff_iff, decide_eq_true_iff, decide_eq_true_iff]; omega
  go_enter Tryz.func42, Tryz.ntmps42
  go_wp2_with fail
  go_ret
  exact ⟨rfl, rfl⟩
def RowC (w : World) (a : Option Addr) (l : List Bs) : Prop := ∀ k x, l[k]? = some x → ∃ ad, a = some ad ∧ w.cell? (ad.add k) = some (strV x)
set_option maxHeartbeats 2000000 in
theorem indexfunc_of {w : World} {a : Option Addr} {cap : Nat} {l : List Bs} (hc : RowC w a l) (hl : l.length ≤ 140737488355328) (hx : ∀ x ∈ l, x.length ≤ 140737488355328) :
    Calls Tryz.prog 67 #[.slice a l.length cap, .func (.func 42) #[] #[]] w fun e w' => (∃ i : Int, e = .returned (.int .i64 i) ∧ ((0 ≤ i ∧ l.any (fun x => decide (398 < x.length)) = true) ∨ (i = -1 ∧ l.any (fun x => decide (398 < x.length)) = false))) ∧ w' = w := by
  obtain ⟨M, hM⟩ : ∃ M, M = l.length := ⟨_, rfl⟩
  rw [← hM] at hl ⊢
  have HM := Lib.hid hM
  have HC := Lib.hid hc
  have HX := Lib.hid hx
  clear hM hc hx
  go_enter Tryz.func67, Tryz.ntmps67
  go_wp2_with fail
  go_loopw [8] (fun iv wq => ∃ q : Nat, iv = .int .i64 (q : Int) ∧ q ≤ M ∧ Hid ((l.take q).any (fun x => decide (398 < x.length)) = false) ∧ wq = w) (fun iv _ => M - (intOf iv).toNat)
  case atStart => exact ⟨0, rfl, Nat.zero_le _, rfl, rfl⟩
  case round =>
    obtain ⟨q, rfl, hq, HF, hw⟩ := hrel
    subst wr
    by_cases hqM : q < M
    · obtain ⟨x, hx⟩ : ∃ x, l[q]? = some x := ⟨_, List.getElem?_eq_getElem (by have := HM.out; omega)⟩
      obtain ⟨ad, rfl, hcx⟩ := HC.out q x hx
      unfold strV at hcx
      have d1 : (q : Int) < (M : Int) := by omega
      have d0 : (0 : Int) ≤ (q : Int) := by omega
      have hwr : IntKind.i64.wrap ((q : Int) + 1) = (q : Int) + 1 := IntWalk.i64_in _ (by omega)
      have HW := Lib.hid (wide_of (mkS x) (by rw [size_mkS]; exact HX.out x (List.mem_of_getElem? hx)) w)
      rw [size_mkS] at HW
      have HT : Hid ((l.take (q + 1)).any (fun x => decide (398 < x.length)) = decide (398 < x.length)) := by
        show _ = _
        obtain ⟨h1, h2⟩ := List.getElem?_eq_some_iff.1 hx
        rw [List.take_succ_eq_append_getElem h1, List.any_append, HF.out, h2]
        simp
      have HMEM := Lib.hid (List.mem_of_getElem? hx)
      clear hx
      go_wp2_with fail
      refine (HW.out).mono ?_
      rintro e w2 ⟨rfl, hw2⟩
      subst w2
      by_cases h398 : 398 < x.length
      · have HA : Hid (l.any (fun x => decide (398 < x.length)) = true) := by
          show _ = _
          rw [List.any_eq_true]
          exact ⟨x, HMEM.out, decide_eq_true h398⟩
        rw [decide_eq_true h398] at HW ⊢
        go_wp2_with fail
        go_ret
        exact ⟨⟨_, rfl, Or.inl ⟨by omega, HA.out⟩⟩, rfl⟩
      · rw [decide_eq_false h398] at HW HT ⊢
        go_wp2_with fail
        go_roundw
        case rel => exact ⟨q + 1, rfl, by omega, HT, trivial⟩
        case measure => simp [intOf]; omega
    · have d1 : ¬ (q : Int) < (M : Int) := by omega
      have HA : Hid (l.any (fun x => decide (398 < x.length)) = false) := by
        show _ = _
        have := HF.out
        rw [List.take_of_length_le (by have := HM.out; omega)] at this
        exact this
      go_wp2_with fail
      go_ret
      exact ⟨⟨_, rfl, Or.inr ⟨rfl, by simpa using HA.out⟩⟩, rfl⟩
theorem containsfunc_of {w : World} {a : Option Addr} {cap : Nat} {l : List Bs} (hc : RowC w a l) (hl : l.length ≤ 140737488355328) (hx : ∀ x ∈ l, x.length ≤ 140737488355328) :
    Calls Tryz.prog 41 #[.slice a l.length cap, .func (.func 42) #[] #[]] w fun e w' => e = .returned (.bool (l.any (fun x => decide (398 < x.length)))) ∧ w' = w := by
  have HI := Lib.hid (indexfunc_of (cap := cap) hc hl hx)
  clear hc hx
  go_enter Tryz.func41, Tryz.ntmps41
  go_wp2_with fail
  refine (HI.out).mono ?_
  rintro e w2 ⟨⟨i, rfl, (⟨h1, h2⟩ | ⟨rfl, h2⟩)⟩, hw⟩
  · subst w2
    have HA := Lib.hid h2
    clear h2
    go_wp2_with fail
    go_ret
    exact ⟨by rw [HA.out]; rfl, rfl⟩
  · subst w2
    have HA := Lib.hid h2
    clear h2
    go_wp2_with fail
    go_ret
    exact ⟨by rw [HA.out]; rfl, rfl⟩
theorem clone_row {w : World} {a : Option Addr} {cap : Nat} {l : List Bs} (hc : RowC w a l) (hl : l.length * 16 ≤ 140737488355328) :
    Calls Tryz.prog 44 #[.slice a l.length cap] w fun e w' => ∃ v', e = .returned v' ∧ w'.ownsRow w.heap.size 9 1 v' l.length (l.map strV) ∧ Below w.heap.size w w' := by
  cases a with
  | none =>
    have : l = [] := by
      cases l with
      | nil => rfl
      | cons x t => obtain ⟨_, h, _⟩ := hc 0 x rfl; cases h
    subst this
    refine (Tryz.slices_Clone_string_nil 0 cap w).mono ?_
    rintro e w' ⟨rfl, rfl⟩
    exact ⟨_, rfl, World.ownsRow_nil _ _ _ _, Below.refl _ _⟩
  | some ad =>
    cases l with
    | nil =>
      refine (Tryz.slices_Clone_string_zero ad cap w).mono ?_
      rintro e w' ⟨v', rfl, ho, _, hb⟩
      exact ⟨v', rfl, ho, hb⟩
    | cons x t =>
      obtain ⟨ad2, h, h0⟩ := hc 0 x rfl
      cases h
      have hsp := World.cell?_spot h0
      obtain ⟨g, o, sp⟩ := ad
      have : sp = none := by simpa [Addr.add] using hsp
      subst this
      refine (Tryz.slices_Clone_string g o (x :: t).length cap ((x :: t).map mkS) w (by simp) hl (fun j hj => ?_)).mono ?_
      · have hj' : j < (x :: t).length := by simpa using hj
        obtain ⟨ad3, h3, h4⟩ := hc j _ (List.getElem?_eq_getElem hj')
        cases h3
        have e1 : (⟨g, o, none⟩ : Addr).add j = ⟨g, o + j, none⟩ := by
          unfold Addr.add
          split
          · rename_i h; subst h; rfl
          · rfl
        rw [e1] at h4
        rw [h4, List.getD_eq_getElem?_getD, List.getElem?_map, List.getElem?_eq_getElem hj']
        rfl
      · rintro e w' ⟨v', rfl, hown, _, hb⟩
        refine ⟨v', rfl, ?_, hb⟩
        rw [List.take_of_length_le (by simp), List.map_map] at hown
        exact hown
end Go.Proofs.YtngcdkbnljoodaaGreatDoor

