/- HalvesSure: what holds within its loop. No conditions beyond those typed. -/
import Derived.Test.YtngcdkbnljoodaaDoorHalQ
namespace Go.Proofs.YtngcdkbnljoodaaDoor
set_option linter.unusedVariables false
set_option linter.unusedSimpArgs false
open Go.RowKit Go.Proofs.YtngcdkbnljoodaaDoorW.PrintWords

set_option maxHeartbeats 4000000 in
theorem compact_wide {w : World} {B : HB} {p b : Nat} {H : HT} (h : HalIs w B p b H) {v : Value} {sn : List Bs} (hv : RowS w v sn) (hl : sn.length ≤ 140737488355328) (hx : ∀ x ∈ sn, x.length ≤ 140737488355328) (hwd : wideL sn = true) :
    Calls Tryd.prog 11 #[.pointer (some ⟨B.h, 0, none⟩), v] w (HapPost B p b (H.compact sn).1 (H.compact sn).2 w) := by
  obtain ⟨a, cap, rfl, hc⟩ := hv
  have HI := Lib.hid h
  have HRC : Hid (RowC w a sn) := hc
  have HCF := Lib.hid (containsfunc_of (cap := cap) HRC.out hl hx)
  rw [show sn.any (fun x => decide (398 < x.length)) = wideL sn from rfl, hwd] at HCF
  obtain ⟨M, hM⟩ : ∃ M, M = sn.length := ⟨_, rfl⟩
  rw [← hM] at hl HCF ⊢
  have HA : Hid (H.compact sn = (H, 3)) := by show _ = _; unfold HT.compact; rw [if_pos hwd]
  clear h hc hx hM
  go_enter Tryd.func11, Tryd.ntmps11
  go_wp2_with fail
  refine (HCF.out).mono ?_
  rintro e w2 ⟨rfl, hw2⟩
  subst w2
  go_wp2_with fail
  go_ret
  rw [HA.out]
  exact HapPost.same HI.out
theorem HIn.compactAny {w0 w : World} {p b hh : Nat} {F : List Nat} {H : HT} (h : HIn w0 w p b hh F H) (hv0 : Vars w0) {v : Value} {sn : List Bs} (hv : RowA w v sn p b) (hv2 : RowA w v sn hh hh) (hl : sn.length ≤ 140737488355328) (hx : ∀ x ∈ sn, x.length ≤ 140737488355328) (ho : wideL sn = true ∨ sn.length ≤ 10000) :
    Calls Tryd.prog 11 #[.pointer (some ⟨hh, 0, none⟩), v] w (HPost w0 w p b hh F (H.compact sn).1 (H.compact sn).2) := by
  rcases ho with ho | ho
  · obtain ⟨B, h1, hB, h2⟩ := h.ex
    have hs : RowS w v sn := by
      obtain ⟨a, cap, rfl, hc⟩ := hv
      exact ⟨a, cap, rfl, fun k x hk => by obtain ⟨ad, h1, _, _, h4⟩ := hc k x hk; exact ⟨ad, h1, h4⟩⟩
    have := (compact_wide hB hs hl hx ho).mono (fun e w' hp => h.post h1 hB h2 hp)
    rw [h1] at this
    exact this
  · exact h.compact hv0 hv hv2 ho hx
/-- A row beside halves. -/
def RowF (w0 w : World) (F : List Nat) (v : Value) (l : List Bs) : Prop := w.ownsRow w0.heap.size 9 1 v l.length (l.map strV) ∧ ∀ g, v.ownBlock = some g → g ∈ F
theorem RowF.away {w0 w w' : World} {F : List Nat} {v : Value} {l : List Bs} (h : RowF w0 w F v l) (ho : Away2 F w w') : RowF w0 w' F v l := ⟨own_away2 h.1 ho h.2, h.2⟩
theorem RowF.keep {w0 w w' : World} {F : List Nat} {v : Value} {l : List Bs} (h : RowF w0 w F v l) (ho : Only [] w w') : RowF w0 w' F v l := ⟨own_keep h.1 ho (by simp), h.2⟩
theorem RowF.sub {w0 w : World} {F G : List Nat} {v : Value} {l : List Bs} (h : RowF w0 w F v l) (hs : ∀ x, x ∈ F → x ∈ G) : RowF w0 w G v l := ⟨h.1, fun g hg => hs g (h.2 g hg)⟩
theorem RowF.nil (w0 w : World) (F : List Nat) : RowF w0 w F (.slice none 0 0) [] := ⟨World.ownsRow_nil _ _ _ _, fun g h => by simp [Value.ownBlock] at h⟩
/-- Within the loop: halves that agree with what was told. -/
def SuIn (w0 w : World) (p b hh : Nat) (sv tv : Value) : Prop := ∃ F H, HIn w0 w p b hh F H ∧ Fit H ∧ H.J.s.n = 200 ∧ RowF w0 w F sv H.sn ∧ RowF w0 w F tv H.tl
/-- Behind the loop: what the store tells. -/
def SuOut (w0 w : World) (p b : Nat) (sv tv ov mv : Value) : Prop := ∃ (F : List Nat) (s : St) (u : Nat) (a : Int) (sn tl on mo : List Bs), StoreIs w p b s ∧ s.n = 200 ∧ Only [] w0 w ∧ (∀ x, x ∈ F → x < w.heap.size ∧ x ≠ p ∧ x ≠ b) ∧
  RowF w0 w F sv sn ∧ RowF w0 w F tv tl ∧ RowF w0 w F ov on ∧ RowF w0 w F mv mo ∧ (Tells s u (a, sn, tl) ∨ Tells s u (a, on, mo))
/-- Behind an act: its answer c; next, add: what was under way. -/
def SuStep (w0 w : World) (p b hh : Nat) (c : Int) (sv tv nv av : Value) : Prop := ∃ (F : List Nat) (H : HT) (sn tl on mo : List Bs), HIn w0 w p b hh F H ∧ H.J.s.n = 200 ∧
  RowF w0 w F sv sn ∧ RowF w0 w F tv tl ∧ RowF w0 w F nv on ∧ RowF w0 w F av mo ∧
  ((c ≠ 0 ∧ c ≠ 16 ∧ Fit H ∧ H.sn = sn ∧ H.tl = tl) ∨ (c = 0 ∧ Fit H ∧ H.sn = on ∧ H.tl = mo) ∨ (c = 16 ∧ ∃ u a, Tells H.J.s u (a, sn, tl) ∨ Tells H.J.s u (a, on, mo)))
theorem SuIn.out {w0 w : World} {p b hh : Nat} {sv tv : Value} (h : SuIn w0 w p b hh sv tv) : SuOut w0 w p b sv tv sv tv := by
  obtain ⟨F, H, h1, h2, h3, h4, h5⟩ := h
  exact ⟨F, H.J.s, H.use, H.age, H.sn, H.tl, H.sn, H.tl, h1.st, h3, h1.on, h1.fl, h4, h5, h4, h5, Or.inl h2.tells⟩
theorem SuIn.keep {w0 w w' : World} {p b hh : Nat} {sv tv : Value} (h : SuIn w0 w p b hh sv tv) (ho : Only [] w w') : SuIn w0 w' p b hh sv tv := by
  obtain ⟨F, H, h1, h2, h3, h4, h5⟩ := h
  exact ⟨F, H, h1.keep ho, h2, h3, h4.keep ho, h5.keep ho⟩
theorem SuIn.on {w0 w : World} {p b hh : Nat} {sv tv : Value} (h : SuIn w0 w p b hh sv tv) : Only [] w0 w := by
  obtain ⟨F, H, h1, _⟩ := h
  exact h1.on
theorem SuStep.same {w0 w : World} {p b hh : Nat} {c : Int} {sv tv nv av : Value} (h : SuStep w0 w p b hh c sv tv nv av) (h0 : c ≠ 0) (h1 : c ≠ 16) : SuIn w0 w p b hh sv tv := by
  obtain ⟨F, H, sn, tl, on, mo, i1, i2, i3, i4, i5, i6, (⟨_, _, i7, rfl, rfl⟩ | ⟨e, _⟩ | ⟨e, _⟩)⟩ := h
  · exact ⟨F, H, i1, i7, i2, i3, i4⟩
  · exact absurd e h0
  · exact absurd e h1
theorem SuStep.went {w0 w : World} {p b hh : Nat} {sv tv nv av : Value} (h : SuStep w0 w p b hh 0 sv tv nv av) : SuIn w0 w p b hh nv av := by
  obtain ⟨F, H, sn, tl, on, mo, i1, i2, i3, i4, i5, i6, (⟨e, _⟩ | ⟨_, i7, rfl, rfl⟩ | ⟨e, _⟩)⟩ := h
  · exact absurd rfl e
  · exact ⟨F, H, i1, i7, i2, i5, i6⟩
  · cases e
theorem SuStep.fell {w0 w : World} {p b hh : Nat} {sv tv nv av : Value} (h : SuStep w0 w p b hh 16 sv tv nv av) : SuOut w0 w p b sv tv nv av := by
  obtain ⟨F, H, sn, tl, on, mo, i1, i2, i3, i4, i5, i6, (⟨_, e, _⟩ | ⟨e, _⟩ | ⟨_, u, a, i7⟩)⟩ := h
  · exact absurd rfl e
  · cases e
  · exact ⟨F, H.J.s, u, a, sn, tl, on, mo, i1.st, i2, i1.on, i1.fl, i3, i4, i5, i6, i7⟩
theorem SuIn.idle {w0 w : World} {p b hh : Nat} {sv tv : Value} (h : SuIn w0 w p b hh sv tv) : SuStep w0 w p b hh 0 sv tv sv tv := by
  obtain ⟨F, H, h1, h2, h3, h4, h5⟩ := h
  exact ⟨F, H, _, _, _, _, h1, h3, h4, h5, h4, h5, Or.inr (Or.inl ⟨rfl, h2, rfl, rfl⟩)⟩
/-- Behind Append, the row of what was under way is built: mv. -/
theorem SuIn.app {w0 w w' : World} {p b hh : Nat} {F : List Nat} {H : HT} {sv tv : Value} (hf : Fit H) (hn : H.J.s.n = 200) (hs : RowF w0 w F sv H.sn) (ht : RowF w0 w F tv H.tl) {r : Bs} (hi : HIn w0 w p b hh F (H.append r).1)
    (ho : Only [] w w') {av : Value} (ha : w'.ownsRow w.heap.size 9 1 av (H.tl.length + 1) (H.tl.map strV ++ [strV r])) : SuStep w0 w' p b hh (H.append r).2 sv tv sv av := by
  have ha2 : w'.ownsRow w.heap.size 9 1 av (H.tl ++ [r]).length ((H.tl ++ [r]).map strV) := by
    rw [List.length_append, List.map_append]
    exact ha
  have hG : ∀ x, x ∈ F ++ av.ownBlock.toList → x ∈ F ∨ (w.heap.size ≤ x ∧ x < w'.heap.size) := fun x hx => by
    rcases List.mem_append.1 hx with h | h
    · exact Or.inl h
    · right
      have := ha2.lt x (by simpa using h)
      exact this
  have hF : ∀ x, x ∈ F → x ∈ F ++ av.ownBlock.toList := fun x hx => by simp [hx]
  have hav : RowF w0 w' (F ++ av.ownBlock.toList) av (H.tl ++ [r]) := ⟨own_mono ha2 hi.on.size, fun g hg => by simp [hg]⟩
  obtain ⟨c1, _, hc⟩ := fit_append hf r
  refine ⟨F ++ av.ownBlock.toList, (H.append r).1, H.sn, H.tl, H.sn, H.tl ++ [r], hi.frame ho _ hG, c1.trans hn, (hs.keep ho).sub hF, (ht.keep ho).sub hF, (hs.keep ho).sub hF, hav, ?_⟩
  rcases hc with ⟨e1, _, e2⟩ | ⟨e1, _, _, e2⟩ | ⟨e1, _, _, e2, _, e3, e4, _, _⟩ | ⟨e1, _, _, e2⟩
  · left; rw [e1, e2]; exact ⟨by decide, by decide, hf, rfl, rfl⟩
  · left; rw [e1, e2]; exact ⟨by decide, by decide, hf, rfl, rfl⟩
  · right; left; exact ⟨e1, e2, e3, e4⟩
  · right; right
    exact ⟨e1, H.use, H.age, e2⟩
theorem SuIn.comp {w0 w w' : World} {p b hh : Nat} {F : List Nat} {H : HT} {sv tv : Value} (hf : Fit H) (hn : H.J.s.n = 200) (hs : RowF w0 w F sv H.sn) (ht : RowF w0 w F tv H.tl) {l : List Bs} (hi : HIn w0 w p b hh F (H.compact l).1)
    (ho : Only [] w w') {nv : Value} (ha : w'.ownsRow w.heap.size 9 1 nv l.length (l.map strV)) : SuStep w0 w' p b hh (H.compact l).2 sv tv nv (.slice none 0 0) := by
  have hG : ∀ x, x ∈ F ++ nv.ownBlock.toList → x ∈ F ∨ (w.heap.size ≤ x ∧ x < w'.heap.size) := fun x hx => by
    rcases List.mem_append.1 hx with h | h
    · exact Or.inl h
    · right
      have := ha.lt x (by simpa using h)
      exact this
  have hF : ∀ x, x ∈ F → x ∈ F ++ nv.ownBlock.toList := fun x hx => by simp [hx]
  have hav : RowF w0 w' (F ++ nv.ownBlock.toList) nv l := ⟨own_mono ha hi.on.size, fun g hg => by simp [hg]⟩
  obtain ⟨c1, _, hc⟩ := fit_compact hf l
  refine ⟨F ++ nv.ownBlock.toList, (H.compact l).1, H.sn, H.tl, l, [], hi.frame ho _ hG, c1.trans hn, (hs.keep ho).sub hF, (ht.keep ho).sub hF, hav, RowF.nil _ _ _, ?_⟩
  rcases hc with ⟨e1, _, e2⟩ | ⟨e1, _, e2⟩ | ⟨e1, _, e2, _, e3, e4, _⟩ | ⟨e1, _, _, e2, _, e3, e4, _⟩ | ⟨e1, _, _, e2⟩
  · left; rw [e1, e2]; exact ⟨by decide, by decide, hf, rfl, rfl⟩
  · left; rw [e1, e2]; exact ⟨by decide, by decide, hf, rfl, rfl⟩
  · right; left; exact ⟨e1, e2, e3, e4⟩
  · left; rw [e1]; exact ⟨by decide, by decide, e2, e3, e4⟩
  · right; right
    rcases e2 with e2 | e2
    · exact ⟨e1, _, _, Or.inl e2⟩
    · exact ⟨e1, _, _, Or.inr e2⟩
end Go.Proofs.YtngcdkbnljoodaaDoor

