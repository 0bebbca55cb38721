/- The program's halves and the document's, side by side. No conditions beyond those typed. HalvesDo: both opened; a block's bytes. No conditions beyond those typed. -/
import Derived.Test.YtngcdkbnljoodaaGreatDoorMrgJ
namespace Go.Proofs.YtngcdkbnljoodaaGreatDoor
set_option linter.unusedVariables false
set_option linter.unusedSimpArgs false
open Go.RowKit Go.Proofs.YtngcdkbnljoodaaGreatDoorW.PrintWords

set_option maxHeartbeats 4000000 in
theorem Ralike_of {w : World} {R : HB} {q g : Nat} {H : HT} (h : RalIs w R q g H) {v1 v2 : Value} (h1 : RowS w v1 H.sn) (h2 : RowS w v2 H.tl) :
    Calls Tryz.prog 23 #[.pointer (some ⟨R.h, 0, none⟩), v1, v2, .int .i64 H.age, .int .i64 (32 * ((H.J.s.n / 2 : Nat) : Int) - (H.J.fin : Int))] w fun e w' => e = .returned (.bool true) ∧ Only [] w w' := by
  have HI := Lib.hid h
  have H1 := Lib.hid h1
  have H2 := Lib.hid h2
  have HFW := Lib.hid h.few
  obtain ⟨vs, vt, hb, hr, ht, _, _⟩ := h.ex
  have HS := Lib.hid (RowS.of_own hr)
  have HT := Lib.hid (RowS.of_own ht)
  have c3 : w.cell? ⟨R.h, 3, none⟩ = some vs := blk_cell hb 3
  have HB := Lib.hid hb
  have hfin := h.ok.fin
  have hn := h.st.wf.hi
  have HRM := Lib.hid (fun W (hW : Only [] w W) => RRoom_of (h.keep hW).jn (by omega) hfin)
  clear h h1 h2 hb hr ht hfin hn
  go_enter Tryz.func23, Tryz.ntmps23
  go_wp2_with fail
  refine (Same_eq HS.out H1.out (by have := HFW.out; omega)).mono ?_
  rintro e w1 ⟨rfl, ho1⟩
  have HO1 := Lib.hid ho1
  have c4 : w1.cell? ⟨R.h, 4, none⟩ = some vt := blk_cell (ho1.blk HB.out (by simp)) 4
  clear ho1
  go_wp2_with fail
  refine (Same_eq (HT.out.keep HO1.out) (H2.out.keep HO1.out) (by have := HFW.out; omega)).mono ?_
  rintro e w2 ⟨rfl, ho2⟩
  have HO2 := Lib.hid (HO1.out.tr ho2)
  have c2 : w2.cell? ⟨R.h, 2, none⟩ = some (.int .i64 H.age) := blk_cell (HO2.out.blk HB.out (by simp)) 2
  have c5 : w2.cell? ⟨R.h, 5, none⟩ = some (.pointer (some ⟨R.j, 0, none⟩)) := blk_cell (HO2.out.blk HB.out (by simp)) 5
  clear ho2 c4
  go_wp2_with fail
  refine (HRM.out _ HO2.out).mono ?_
  rintro e w3 ⟨rfl, k, rfl⟩
  have HO3 : Hid (Only [] w (w2.drewN k)) := HO2.out.drewN k
  go_wp2_with fail
  go_ret
  exact ⟨rfl, HO3.out⟩
/-- Halves of the program and of the document, side by side. -/
structure Two (w0 w : World) (p b q g : Nat) (B R : HB) (HA HR : HT) : Prop where
  a : HalIs w B p b HA
  r : RalIs w R q g HR
  d : ∀ x, x ∈ B.own → w0.heap.size ≤ x ∧ x ∉ R.own ∧ x ≠ q ∧ x ≠ g
  e : ∀ x, x ∈ R.own → w0.heap.size ≤ x ∧ x ≠ p ∧ x ≠ b
  pb : w0.heap.size ≤ p ∧ w0.heap.size ≤ b ∧ w0.heap.size ≤ q ∧ w0.heap.size ≤ g
  z : p ≠ q ∧ p ≠ g ∧ b ≠ q ∧ b ≠ g
  on : Only [] w0 w
theorem Two.keep {w0 w w' : World} {p b q g : Nat} {B R : HB} {HA HR : HT} (h : Two w0 w p b q g B R HA HR) (ho : Only [] w w') : Two w0 w' p b q g B R HA HR := ⟨h.a.keep ho, h.r.keep ho, h.d, h.e, h.pb, h.z, h.on.tr ho⟩
theorem Two.stepA {w0 w w' : World} {p b q g : Nat} {B R : HB} {HA HR H' : HT} {c : Int} {e : Ending} (h : Two w0 w p b q g B R HA HR) (hp : HapPost B p b H' c w e w') : e = .returned (.int .i64 c) ∧ Only ([p, b] ++ B.own) w w' ∧ ∃ B' : HB, B'.h = B.h ∧ Two w0 w' p b q g B' R H' HR := by
  obtain ⟨he, ho, B', hB', hown, hH⟩ := hp
  have hz := h.z
  have hlt := ral_lt h.r
  have hsz := h.on.size
  have hlg := h.r.st.lt
  refine ⟨he, ho, B', hB', hH, h.r.only ho ?_ ?_ (fun x hx => ?_), fun x hx => ?_, h.e, h.pb, h.z, h.on.trans ho (fun x hx => ?_)⟩
  · intro hm
    rcases List.mem_append.1 hm with hm | hm
    · simp at hm; rcases hm with e | e
      · exact hz.1 e.symm
      · exact hz.2.2.1 e.symm
    · exact (h.d q hm).2.2.1 rfl
  · intro hm
    rcases List.mem_append.1 hm with hm | hm
    · simp at hm; rcases hm with e | e
      · exact hz.2.1 e.symm
      · exact hz.2.2.2 e.symm
    · exact (h.d g hm).2.2.2 rfl
  · intro hm
    rcases List.mem_append.1 hm with hm | hm
    · have := (h.e x hx).2
      simp at hm; rcases hm with e | e
      · exact this.1 e
      · exact this.2 e
    · exact (h.d x hm).2.1 hx
  · rcases hown x hx with e | e
    · exact h.d x e
    · exact ⟨by omega, fun hr => by have := hlt x (by simp [hr]); omega, by omega, by omega⟩
  · rcases List.mem_append.1 hx with hm | hm
    · have := h.pb
      simp at hm; rcases hm with rfl | rfl
      · exact Or.inr this.1
      · exact Or.inr this.2.1
    · exact Or.inr (h.d x hm).1
theorem Two.stepR {w0 w w' : World} {p b q g : Nat} {B R : HB} {HA HR H' : HT} {c : Int} {e : Ending} (h : Two w0 w p b q g B R HA HR) (hp : RapPost R q g H' c w e w') : e = .returned (.int .i64 c) ∧ Only ([q, g] ++ R.own) w w' ∧ ∃ R' : HB, R'.h = R.h ∧ Two w0 w' p b q g B R' HA H' := by
  obtain ⟨he, ho, R', hR', hown, hH⟩ := hp
  have hz := h.z
  have hlt := hal_lt h.a
  have hsz := h.on.size
  have hls := h.a.st.lt
  refine ⟨he, ho, R', hR', h.a.only ho ?_ ?_ (fun x hx => ?_), hH, fun x hx => ?_, fun x hx => ?_, h.pb, h.z, h.on.trans ho (fun x hx => ?_)⟩
  · intro hm
    rcases List.mem_append.1 hm with hm | hm
    · simp at hm; rcases hm with e | e
      · exact hz.1 e
      · exact hz.2.1 e
    · exact (h.e p hm).2.1 rfl
  · intro hm
    rcases List.mem_append.1 hm with hm | hm
    · simp at hm; rcases hm with e | e
      · exact hz.2.2.1 e
      · exact hz.2.2.2 e
    · exact (h.e b hm).2.2 rfl
  · intro hm
    rcases List.mem_append.1 hm with hm | hm
    · have := (h.d x hx).2.2
      simp at hm; rcases hm with e | e
      · exact this.1 e
      · exact this.2 e
    · exact (h.d x hx).2.1 hm
  · obtain ⟨d1, d2, d3, d4⟩ := h.d x hx
    refine ⟨d1, fun hr => ?_, d3, d4⟩
    rcases hown x hr with e | e
    · exact d2 e
    · have := hlt x (by simp [hx]); omega
  · rcases hown x hx with e | e
    · exact h.e x e
    · exact ⟨by omega, by omega, by omega⟩
  · rcases List.mem_append.1 hx with hm | hm
    · have := h.pb
      simp at hm; rcases hm with rfl | rfl
      · exact Or.inr this.2.2.1
      · exact Or.inr this.2.2.2
    · exact Or.inr (h.e x hm).1
/-- Two stores, side by side. -/
structure St2 (w0 w : World) (p b q g : Nat) (s t : St) : Prop where
  a : StoreIs w p b s
  r : StR w q g t
  pb : w0.heap.size ≤ p ∧ w0.heap.size ≤ b ∧ w0.heap.size ≤ q ∧ w0.heap.size ≤ g
  z : p ≠ q ∧ p ≠ g ∧ b ≠ q ∧ b ≠ g
  on : Only [] w0 w
theorem Two.st {w0 w : World} {p b q g : Nat} {B R : HB} {HA HR : HT} (h : Two w0 w p b q g B R HA HR) : St2 w0 w p b q g HA.J.s HR.J.s := ⟨h.a.st, h.r.st, h.pb, h.z, h.on⟩
theorem St2.keep {w0 w w' : World} {p b q g : Nat} {s t : St} (h : St2 w0 w p b q g s t) (ho : Only [] w w') : St2 w0 w' p b q g s t := ⟨h.a.only ho (by simp) (by simp), h.r.only ho (by simp) (by simp), h.pb, h.z, h.on.tr ho⟩
theorem St2.turnA {w0 w w' : World} {p b q g : Nat} {s t s' : St} (h : St2 w0 w p b q g s t) (ho : Only [p, b] w w') (hs : StoreIs w' p b s') : St2 w0 w' p b q g s' t := by
  have hz := h.z
  exact ⟨hs, h.r.only ho (by simp; exact ⟨fun e => hz.1 e.symm, fun e => hz.2.2.1 e.symm⟩) (by simp; exact ⟨fun e => hz.2.1 e.symm, fun e => hz.2.2.2 e.symm⟩), h.pb, h.z, h.on.trans ho (by simp; exact ⟨h.pb.1, h.pb.2.1⟩)⟩
theorem St2.turnR {w0 w w' : World} {p b q g : Nat} {s t t' : St} (h : St2 w0 w p b q g s t) (ho : Only [q, g] w w') (hs : StR w' q g t') : St2 w0 w' p b q g s t' := by
  have hz := h.z
  exact ⟨h.a.only ho (by simp; exact ⟨hz.1, hz.2.1⟩) (by simp; exact ⟨hz.2.2.1, hz.2.2.2⟩), hs, h.pb, h.z, h.on.trans ho (by simp; exact ⟨h.pb.2.2.1, h.pb.2.2.2⟩)⟩
/-- The stores under two halves have turned. -/
theorem Two.turn {w0 w w' : World} {p b q g : Nat} {B R : HB} {HA HR : HT} {s t : St} (h : Two w0 w p b q g B R HA HR) (ho : Only [p, b, q, g] w w') (hs : St2 w0 w' p b q g s t) (hn : s.n = HA.J.s.n) (hm : t.n = HR.J.s.n) : Two w0 w' p b q g B R { HA with J := { HA.J with s := s } } { HR with J := { HR.J with s := t } } := by
  have hne := h.a.apart
  have hnr := ral_ne h.r
  refine ⟨h.a.other ho (fun x hx => ?_) hs.a hn, ?_, h.d, h.e, h.pb, h.z, hs.on⟩
  · have h1 := hne x hx
    have h2 := h.d x hx
    simp
    exact ⟨h1.2.1, h1.2.2, h2.2.2.1, h2.2.2.2⟩
  · obtain ⟨vs, vt, hb, hr, ht, h1, h2⟩ := h.r.ex
    have hS : ∀ x, x ∈ R.own → x ∉ [p, b, q, g] := fun x hx => by
      have e1 := h.e x hx
      have e2 := hnr x hx
      simp
      exact ⟨e1.2.1, e1.2.2, e2.1, e2.2⟩
    have hS2 := hS
    unfold HB.own at hS2
    simp only [List.mem_append, List.mem_cons, List.not_mem_nil, or_false, Option.mem_toList, Option.mem_def] at hS2
    have hk := h.r.ok
    refine ⟨hs.r, by show 4 ≤ t.n; rw [hm]; exact h.r.n4, h.r.u1, ⟨vs, vt, ho.blk hb (hS R.h (by simp [HB.own])), own_keep hr ho (fun x hx => hS x (by simp only [HB.own, List.mem_append, Option.mem_toList, Option.mem_def]; exact Or.inr (Or.inr (Or.inl (h1.symm.trans hx))))), own_keep ht ho (fun x hx => hS x (by simp only [HB.own, List.mem_append, Option.mem_toList, Option.mem_def]; exact Or.inr (Or.inr (Or.inr (h2.symm.trans hx))))), h1, h2⟩, ?_, ?_, h.r.rg, h.r.ag, h.r.sl, h.r.tll⟩
    · show JnR w' R.j R.rb q (HR.use * (t.n / 2)) (t.n / 2) HR.J.l HR.J.fin HR.J.o
      rw [hm]
      exact h.r.jn.only ho (hS R.j (by simp [HB.own])) (fun x hx => hS x (by simp only [HB.own, List.mem_append, Option.mem_toList, Option.mem_def]; exact Or.inr (Or.inl hx)))
    · show JS.Ok (HR.use * (t.n / 2)) (t.n / 2) { HR.J with s := t }
      rw [hm]
      have hh := hk.has
      exact ⟨hs.r.wf, by unfold St.Has at hh ⊢; show _ ∧ _ ≤ t.n; rw [hm]; exact hh, hk.fin, hk.len⟩
end Go.Proofs.YtngcdkbnljoodaaGreatDoor

namespace Go.Proofs.YtngcdkbnljoodaaGreatDoor
set_option linter.unusedVariables false
set_option linter.unusedSimpArgs false
open Go.RowKit Go.Proofs.YtngcdkbnljoodaaGreatDoorW.PrintWords

/-- The state between two acts: none, or both alike. -/
def DoIn (w0 w : World) (p b q g n : Nat) (hv rv : Value) : Prop :=
  (hv = .pointer none ∧ rv = .pointer none ∧ ∃ s : St, St2 w0 w p b q g s s ∧ s.n = n) ∨ (∃ (B R : HB) (H : HT), hv = .pointer (some ⟨B.h, 0, none⟩) ∧ rv = .pointer (some ⟨R.h, 0, none⟩) ∧ Two w0 w p b q g B R H H ∧ H.J.s.n = n)
theorem DoIn.keep {w0 w w' : World} {p b q g n : Nat} {hv rv : Value} (h : DoIn w0 w p b q g n hv rv) (ho : Only [] w w') : DoIn w0 w' p b q g n hv rv := by
  rcases h with ⟨h1, h2, s, h3, h4⟩ | ⟨B, R, H, h1, h2, h3, h4⟩
  · exact Or.inl ⟨h1, h2, s, h3.keep ho, h4⟩
  · exact Or.inr ⟨B, R, H, h1, h2, h3.keep ho, h4⟩
theorem DoIn.on {w0 w : World} {p b q g n : Nat} {hv rv : Value} (h : DoIn w0 w p b q g n hv rv) : Only [] w0 w := by
  rcases h with ⟨_, _, s, h3, _⟩ | ⟨B, R, H, _, _, h3, _⟩
  · exact h3.on
  · exact h3.on
theorem DoIn.st {w0 w : World} {p b q g n : Nat} {hv rv : Value} (h : DoIn w0 w p b q g n hv rv) : ∃ s : St, St2 w0 w p b q g s s ∧ s.n = n := by
  rcases h with ⟨_, _, s, h3, h4⟩ | ⟨B, R, H, _, _, h3, h4⟩
  · exact ⟨s, h3, h4⟩
  · exact ⟨_, h3.st, h4⟩
noncomputable def opC (s : St) : Int := if s.n < 4 then 1 else (openH s).2
noncomputable def opS (s : St) : St := if s.n < 4 then s else (openH s).1.J.s
def OpA (w0 w : World) (p b q g : Nat) (s t : St) (e : Ending) (w' : World) : Prop := St2 w0 w' p b q g (opS s) t ∧ (opS s).n = s.n ∧ Only [p, b] w w' ∧
  ((opC s ≠ 0 ∧ e = .returned (.tuple #[.pointer none, .int .i64 (opC s)])) ∨ (opC s = 0 ∧ ∃ B : HB, e = .returned (.tuple #[.pointer (some ⟨B.h, 0, none⟩), .int .i64 0]) ∧ HalIs w' B p b (openH s).1 ∧ ∀ x, x ∈ B.own → w.heap.size ≤ x))
theorem do_openA {w0 w : World} {p b q g : Nat} {s t : St} (h : St2 w0 w p b q g s t) (hv : Vars w0) : Calls Tryz.prog 7 #[.pointer (some ⟨p, 0, none⟩)] w (OpA w0 w p b q g s t) := by
  by_cases h4 : s.n < 4
  · refine (open_few h.a h4).mono ?_
    rintro e w' ⟨rfl, hw⟩
    subst w'
    have e1 : opS s = s := by unfold opS; rw [if_pos h4]
    have e2 : opC s = 1 := by unfold opC; rw [if_pos h4]
    refine ⟨by rw [e1]; exact h, by rw [e1], Only.refl _ _, Or.inl ⟨by rw [e2]; decide, by rw [e2]⟩⟩
  · refine (openH_of h.a (by omega) (hv.only h.on)).mono ?_
    rintro e w' ⟨ho, hst, hn, po, rfl, h5, h6⟩
    have e1 : opS s = (openH s).1.J.s := by unfold opS; rw [if_neg h4]
    have e2 : opC s = (openH s).2 := by unfold opC; rw [if_neg h4]
    refine ⟨by rw [e1]; exact h.turnA ho hst, by rw [e1]; exact hn, ho, ?_⟩
    rw [e2]
    by_cases h0 : (openH s).2 = 0
    · obtain ⟨B, rfl, h7, h8⟩ := h6 h0
      exact Or.inr ⟨h0, B, by rw [h0], h8, h7⟩
    · exact Or.inl ⟨h0, by rw [h5 h0]⟩
def OpR (w0 w : World) (p b q g : Nat) (s t : St) (e : Ending) (w' : World) : Prop := St2 w0 w' p b q g s (opS t) ∧ (opS t).n = t.n ∧ Only [q, g] w w' ∧
  ((opC t ≠ 0 ∧ e = .returned (.tuple #[.pointer none, .int .i64 (opC t)])) ∨ (opC t = 0 ∧ ∃ R : HB, e = .returned (.tuple #[.pointer (some ⟨R.h, 0, none⟩), .int .i64 0]) ∧ RalIs w' R q g (openH t).1 ∧ ∀ x, x ∈ R.own → w.heap.size ≤ x))
theorem do_openR {w0 w : World} {p b q g : Nat} {s t : St} (h : St2 w0 w p b q g s t) : Calls Tryz.prog 8 #[.pointer (some ⟨q, 0, none⟩)] w (OpR w0 w p b q g s t) := by
  by_cases h4 : t.n < 4
  · refine (Ropen_few h.r h4).mono ?_
    rintro e w' ⟨rfl, hw⟩
    subst w'
    have e1 : opS t = t := by unfold opS; rw [if_pos h4]
    have e2 : opC t = 1 := by unfold opC; rw [if_pos h4]
    refine ⟨by rw [e1]; exact h, by rw [e1], Only.refl _ _, Or.inl ⟨by rw [e2]; decide, by rw [e2]⟩⟩
  · refine (ROpenH_of h.r (by omega)).mono ?_
    rintro e w' ⟨ho, hst, hn, po, rfl, h5, h6⟩
    have e1 : opS t = (openH t).1.J.s := by unfold opS; rw [if_neg h4]
    have e2 : opC t = (openH t).2 := by unfold opC; rw [if_neg h4]
    refine ⟨by rw [e1]; exact h.turnR ho hst, by rw [e1]; exact hn, ho, ?_⟩
    rw [e2]
    by_cases h0 : (openH t).2 = 0
    · obtain ⟨R, rfl, h7, h8⟩ := h6 h0
      exact Or.inr ⟨h0, R, by rw [h0], h8, h7⟩
    · exact Or.inl ⟨h0, by rw [h5 h0]⟩
theorem op_zero {s : St} (h : opC s = 0) : opS s = (openH s).1.J.s := by
  unfold opC at h
  unfold opS
  by_cases h4 : s.n < 4
  · rw [if_pos h4] at h; cases h
  · rw [if_neg h4]
/-- Both opened. -/
theorem DoIn.opened {w0 w w1 w2 : World} {p b q g : Nat} {s : St} {B R : HB} (h0 : St2 w0 w p b q g s s) (hc : opC s = 0) (ho1 : Only [p, b] w w1) (hB : HalIs w1 B p b (openH s).1) (hb : ∀ x, x ∈ B.own → w.heap.size ≤ x) (ho2 : Only [q, g] w1 w2) (hR : RalIs w2 R q g (openH s).1) (hr : ∀ x, x ∈ R.own → w1.heap.size ≤ x) (hs : St2 w0 w2 p b q g (opS s) (opS s)) (hn : (opS s).n = s.n) :
    DoIn w0 w2 p b q g s.n (.pointer (some ⟨B.h, 0, none⟩)) (.pointer (some ⟨R.h, 0, none⟩)) := by
  have hlq := h0.r.lt
  have hla := h0.a.lt
  have hz := h0.z
  have h1 := ho1.size
  have hw := h0.on.size
  have hlt := hal_lt hB
  refine Or.inr ⟨B, R, (openH s).1, rfl, rfl, ⟨hB.only ho2 (by simp; exact ⟨hz.1, hz.2.1⟩) (by simp; exact ⟨hz.2.2.1, hz.2.2.2⟩) (fun x hx => by have := hb x hx; simp; omega), hR, fun x hx => ?_, fun x hx => ?_, h0.pb, h0.z, hs.on⟩, by rw [← op_zero hc]; exact hn⟩
  · have := hb x hx
    have h3 := hlt x (by simp [hx])
    exact ⟨by omega, fun hm => by have := hr x hm; omega, by omega, by omega⟩
  · have := hr x hx
    exact ⟨by omega, by omega, by omega⟩
/-- 32 bytes that begin with some. -/
def blkS (t : Bs) : Bs := (t ++ zs 32).take 32
set_option maxHeartbeats 2000000 in
theorem block_of (s : ByteArray) (hs : s.size ≤ 140737488355328) (w : World) : Calls Tryz.prog 19 #[.string s] w fun e w' => e = .returned (.string (mkS (blkS s.data.toList))) ∧ w = w' := by
  have hsl : s.data.toList.length = s.size := rfl
  go_enter Tryz.func19, Tryz.ntmps19
  obtain ⟨L, hL⟩ : ∃ L, L = s.data.toList := ⟨_, rfl⟩
  rw [← hL]
  have hs0 : s = mkS (L ++ zs 0) := by rw [hL]; show s = mkS (s.data.toList ++ []); rw [List.append_nil, mkS_list]
  have hLl : L.length = s.size := by rw [hL]; rfl
  rw [← hLl] at hs
  rw [hs0]
  have HLL := Lib.hid hs
  clear hL hs0 hLl hsl hs
  go_wp2
  go_loopw [0] (fun sv wr => ∃ k : Nat, sv = .string (mkS (L ++ zs k)) ∧ (k = 0 ∨ L.length + k ≤ 32) ∧ w = wr) (fun sv _ => 32 - (match sv with | .string b => b.size | _ => 0))
  case atStart => exact ⟨0, rfl, Or.inl rfl, rfl⟩
  case round =>
    obtain ⟨k, rfl, hk, rfl⟩ := hrel
    have hAs : (mkS (L ++ zs k)).size = L.length + k := by rw [size_mkS, List.length_append, zs_length]
    have hsn : mkS (L ++ zs (k + 1)) = mkS (L ++ zs k) ++ { data := #[0] } := by
      rw [show ({ data := #[0] } : ByteArray) = mkS [0] from rfl, mkS_append, List.append_assoc]
      congr 2
      exact List.replicate_succ'
    have hex : (mkS (L ++ zs k)).extract 0 32 = mkS ((L ++ zs k).take 32) := by rw [mkS_extract, list_mkS]; rfl
    have hle := HLL.out
    obtain ⟨A, hA⟩ : ∃ A, A = mkS (L ++ zs k) := ⟨_, rfl⟩
    rw [← hA] at hAs hsn hex ⊢
    obtain ⟨O, hO⟩ : ∃ O : ByteArray, O = { data := #[0] } := ⟨_, rfl⟩
    have hO2 : ({ data := #[0] } : ByteArray) = O := hO.symm
    have hOs : O.size = 1 := by rw [hO]; rfl
    rw [hO2] at hsn
    have HSN := Lib.hid hsn
    obtain ⟨N, hN⟩ : ∃ N, N = L.length + k := ⟨_, rfl⟩
    rw [← hN] at hAs
    have HN := Lib.hid hN
    have HA := Lib.hid hA
    by_cases h32 : N < 32
    · have r1 : ∀ W : World, (Op.stringOp .add A O).run Tryz.prog W = .ok (.string (A ++ O)) W := fun W => by rw [run_string_add_sum W A O (by omega)]
      have hc1 : (N : Int) < 32 := by omega
      have HK : Hid (L.length + (k + 1) ≤ 32 ∧ (A ++ O).size = N + 1) := ⟨by omega, by rw [← hsn, size_mkS, List.length_append, zs_length]; omega⟩
      have HAS := Lib.hid hAs
      clear hA hO hsn hex hN
      go_wp2
      go_roundw
      case rel => exact ⟨k + 1, by rw [HSN.out], Or.inr HK.out.1, trivial⟩
      case measure => show 32 - (A ++ O).size < 32 - A.size; have := HK.out.2; have := HAS.out; omega
    · have hc1 : ¬ (N : Int) < 32 := by omega
      have hc2 : (32 : Int) ≤ (N : Int) := by omega
      have hfin : (L ++ zs k).take 32 = blkS L := by
        unfold blkS
        rcases hk with rfl | hk
        · rw [List.take_append_of_le_length (by omega), List.take_append_of_le_length (by omega)]
        · have : k ≤ 32 := by omega
          rw [List.take_append, List.take_append, zs_take k (32 - L.length) (by omega), zs_take 32 (32 - L.length) (by omega)]
      rw [hfin] at hex
      clear hA hO hsn hN hfin
      go_wp2
      go_ret
      exact ⟨by rw [← hex]; rfl, rfl⟩
end Go.Proofs.YtngcdkbnljoodaaGreatDoor

