/- JournalParts' walk. No conditions beyond those typed. -/
import Derived.Test.YtngcdkbnljoodaaJouPb
import Derived.Deep.AppendLies
import Derived.Deep.RegionLaw
namespace Go.Proofs.Ytngcdkbnljoodaa
set_option linter.unusedVariables false
set_option linter.unusedSimpArgs false
open Go.RowKit Go.Proofs.YtngcdkbnljoodaaW.PrintWords

/-- A row of bytes, to be read. -/
def RowU (w : World) (v : Value) (l : List Int) : Prop := ∃ a cap, v = .slice a l.length cap ∧ ∀ k x, l[k]? = some x → ∃ p, a = some p ∧ w.cell? (p.add k) = some (.int .u8 x)
theorem cell_keep {w w' : World} {p : Addr} {x : Value} (h : w.cell? p = some x) (ho : Only [] w w') : w'.cell? p = some x := by
  have hlt : p.block < w.heap.size := by
    rcases Nat.lt_or_ge p.block w.heap.size with h2 | h2
    · exact h2
    · unfold World.cell? at h
      rw [Array.getElem?_eq_none h2] at h
      simp at h
  exact (World.cell?_of_block (ho.block _ hlt (by simp))).trans h
/-- Three values in a block. -/
def arr3 (f : Nat → Value) : Array Value := #[f 0, f 1, f 2]
theorem arr3_get (f : Nat → Value) {k : Nat} (h : k < 3) : (arr3 f)[k]? = some (f k) := by
  match k, h with
  | 0, _ => rfl
  | 1, _ => rfl
  | 2, _ => rfl
theorem arr3_set (f : Nat → Value) {k : Nat} (h : k < 3) (v : Value) : (arr3 f).setIfInBounds k v = arr3 (upd f k v) := by
  match k, h with
  | 0, _ => rfl
  | 1, _ => rfl
  | 2, _ => rfl
def Arr3 (w : World) (g : Nat) (t : TypeId) (f : Nat → Value) : Prop := w.heap[g]? = some (.cells (arr3 f) t (0, 0))
theorem Arr3.cell {w : World} {g : Nat} {t : TypeId} {f : Nat → Value} (h : Arr3 w g t f) {k : Nat} (hk : k < 3) : w.cell? ⟨g, k, none⟩ = some (f k) := (blk_cell h k).trans (arr3_get f hk)
theorem Arr3.frozen {w : World} {g : Nat} {t : TypeId} {f : Nat → Value} (h : Arr3 w g t f) (k : Nat) : w.frozen? ⟨g, k, none⟩ = false := blk_frozen h k
theorem Arr3.keep {w w' : World} {g : Nat} {t : TypeId} {f : Nat → Value} (h : Arr3 w g t f) (ht : ArrT t) (k : KeepA w w') : Arr3 w' g t f := k g _ t _ ht h
theorem Arr3.set {w : World} {g : Nat} {t : TypeId} {f : Nat → Value} (h : Arr3 w g t f) {k : Nat} (hk : k < 3) (v : Value) : Arr3 (w.setCell ⟨g, k, none⟩ v) g t (upd f k v) := by
  have := blk_set h k v
  rw [arr3_set f hk] at this
  exact this
theorem arrA : ArrT 57 := ⟨by decide, by decide, by decide, by decide⟩
theorem arrJ : ArrT 58 := ⟨by decide, by decide, by decide, by decide⟩
theorem arrW : ArrT 59 := ⟨by decide, by decide, by decide, by decide⟩
theorem four_new (w : World) (c0 c1 c2 c3 : Array Value) (t0 t1 t2 t3 : TypeId) :
    ((((w.alloc (.cells c0 t0)).alloc (.cells c1 t1)).alloc (.cells c2 t2)).alloc (.cells c3 t3)).heap[w.heap.size]? = some (.cells c0 t0 (0, 0)) ∧
    ((((w.alloc (.cells c0 t0)).alloc (.cells c1 t1)).alloc (.cells c2 t2)).alloc (.cells c3 t3)).heap[w.heap.size + 1]? = some (.cells c1 t1 (0, 0)) ∧
    ((((w.alloc (.cells c0 t0)).alloc (.cells c1 t1)).alloc (.cells c2 t2)).alloc (.cells c3 t3)).heap[w.heap.size + 1 + 1]? = some (.cells c2 t2 (0, 0)) ∧
    ((((w.alloc (.cells c0 t0)).alloc (.cells c1 t1)).alloc (.cells c2 t2)).alloc (.cells c3 t3)).heap[w.heap.size + 1 + 1 + 1]? = some (.cells c3 t3 (0, 0)) ∧
    Only [] w ((((w.alloc (.cells c0 t0)).alloc (.cells c1 t1)).alloc (.cells c2 t2)).alloc (.cells c3 t3)) := by
  refine ⟨blk_alloc (blk_alloc (blk_alloc (blk_new w _) _) _) _, ?_, ?_, ?_, ((((Only.refl [] w).alloc _).alloc _).alloc _).alloc _⟩
  · have := blk_alloc (blk_alloc (blk_new (w.alloc (.cells c0 t0)) (.cells c1 t1)) (.cells c2 t2)) (.cells c3 t3)
    simpa using this
  · have := blk_alloc (blk_new ((w.alloc (.cells c0 t0)).alloc (.cells c1 t1)) (.cells c2 t2)) (.cells c3 t3)
    simpa using this
  · have := blk_new (((w.alloc (.cells c0 t0)).alloc (.cells c1 t1)).alloc (.cells c2 t2)) (.cells c3 t3)
    simpa using this
def ptrV (j : Nat) : Value := .pointer (some ⟨j, 0, none⟩)
def intV (f : Nat → Nat) : Nat → Value := fun i => .int .i64 (f i : Int)
/-- The journals of the parts, and the law's four arrays. -/
structure PaA (w0 w : World) (p b : Nat) (fr nb : Nat → Nat) (n : Nat) (J : Nat → Nat) (LS WS : Nat → List Bs) (V : Nat → Value) (aF aM aj aw : Nat) : Prop where
  pa : ∃ RB s, Pa w0 w p b fr nb n J RB LS WS V s
  cF : Arr3 w aF 57 (intV fr)
  cM : Arr3 w aM 57 (intV nb)
  cJ : ∃ PJ, Arr3 w aj 58 PJ ∧ ∀ i, i < n → PJ i = ptrV (J i)
  cW : Arr3 w aw 59 V
  gj : w0.heap.size ≤ aj
  gw : w0.heap.size ≤ aw
theorem PaA.on {w0 w : World} {p b n : Nat} {fr nb J : Nat → Nat} {LS WS : Nat → List Bs} {V : Nat → Value} {aF aM aj aw : Nat} (h : PaA w0 w p b fr nb n J LS WS V aF aM aj aw) : Only [] w0 w := by
  obtain ⟨_, _, h⟩ := h.pa
  exact h.on
theorem PaA.with {w0 w w' : World} {p b n : Nat} {fr nb J : Nat → Nat} {LS WS LS' : Nat → List Bs} {V : Nat → Value} {aF aM aj aw : Nat} (h : PaA w0 w p b fr nb n J LS WS V aF aM aj aw) (k : KeepA w w') (hp : ∃ RB s, Pa w0 w' p b fr nb n J RB LS' WS V s) : PaA w0 w' p b fr nb n J LS' WS V aF aM aj aw := by
  obtain ⟨PJ, h1, h2⟩ := h.cJ
  exact ⟨hp, h.cF.keep arrA k, h.cM.keep arrA k, ⟨PJ, h1.keep arrJ k, h2⟩, h.cW.keep arrW k, h.gj, h.gw⟩
theorem PaA.keep {w0 w w' : World} {p b n : Nat} {fr nb J : Nat → Nat} {LS WS : Nat → List Bs} {V : Nat → Value} {aF aM aj aw : Nat} (h : PaA w0 w p b fr nb n J LS WS V aF aM aj aw) (ho : Only [] w w') : PaA w0 w' p b fr nb n J LS WS V aF aM aj aw := by
  obtain ⟨RB, s, hp⟩ := h.pa
  exact h.with (KeepA.of_nil ho) ⟨RB, s, hp.keep ho⟩
theorem PaA.cellF {w0 w : World} {p b n k : Nat} {fr nb J : Nat → Nat} {LS WS : Nat → List Bs} {V : Nat → Value} {aF aM aj aw : Nat} (h : PaA w0 w p b fr nb n J LS WS V aF aM aj aw) (hk : k < 3) : w.cell? ⟨aF, k, none⟩ = some (.int .i64 (fr k : Int)) := h.cF.cell hk
theorem PaA.cellM {w0 w : World} {p b n k : Nat} {fr nb J : Nat → Nat} {LS WS : Nat → List Bs} {V : Nat → Value} {aF aM aj aw : Nat} (h : PaA w0 w p b fr nb n J LS WS V aF aM aj aw) (hk : k < 3) : w.cell? ⟨aM, k, none⟩ = some (.int .i64 (nb k : Int)) := h.cM.cell hk
theorem PaA.cellJ {w0 w : World} {p b n k : Nat} {fr nb J : Nat → Nat} {LS WS : Nat → List Bs} {V : Nat → Value} {aF aM aj aw : Nat} (h : PaA w0 w p b fr nb n J LS WS V aF aM aj aw) (hn : n ≤ 3) (hk : k < n) : w.cell? ⟨aj, k, none⟩ = some (.pointer (some ⟨J k, 0, none⟩)) := by
  obtain ⟨PJ, h1, h2⟩ := h.cJ
  rw [h1.cell (by omega), h2 k hk]
  rfl
theorem PaA.cellW {w0 w : World} {p b n k : Nat} {fr nb J : Nat → Nat} {LS WS : Nat → List Bs} {V : Nat → Value} {aF aM aj aw : Nat} (h : PaA w0 w p b fr nb n J LS WS V aF aM aj aw) (hk : k < 3) : w.cell? ⟨aw, k, none⟩ = some (V k) := h.cW.cell hk
theorem PaA.rowW {w0 w : World} {p b n k : Nat} {fr nb J : Nat → Nat} {LS WS : Nat → List Bs} {V : Nat → Value} {aF aM aj aw : Nat} (h : PaA w0 w p b fr nb n J LS WS V aF aM aj aw) (hk : k < 3) : RowS w (V k) (WS k) := by
  obtain ⟨RB, s, hp⟩ := h.pa
  exact hp.mapV hk
theorem PaA.few {w0 w : World} {p b n k : Nat} {fr nb J : Nat → Nat} {LS WS : Nat → List Bs} {V : Nat → Value} {aF aM aj aw : Nat} (h : PaA w0 w p b fr nb n J LS WS V aF aM aj aw) (hk : k < n) : (LS k).length ≤ 2000 := by
  obtain ⟨RB, s, hp⟩ := h.pa
  exact hp.few hk
/-- Behind the opening of the next part, its journal in the array. -/
theorem PaA.setJ {w0 w w' : World} {p b k j : Nat} {fr nb J : Nat → Nat} {LS WS : Nat → List Bs} {V : Nat → Value} {aF aM aj aw : Nat} (h : PaA w0 w p b fr nb k J LS WS V aF aM aj aw) (hk : k < 3) (ka : KeepA w w') (hp : ∃ RB s, Pa w0 w' p b fr nb (k + 1) (upd J k j) RB LS WS V s) :
    PaA w0 (w'.setCell ⟨aj, k, none⟩ (.pointer (some ⟨j, 0, none⟩))) p b fr nb (k + 1) (upd J k j) LS WS V aF aM aj aw := by
  obtain ⟨PJ, h1, h2⟩ := h.cJ
  obtain ⟨RB, s, hp⟩ := hp
  have ho : Only [aj] w' (w'.setCell ⟨aj, k, none⟩ (.pointer (some ⟨j, 0, none⟩))) := (Only.refl _ _).setCell (p := ⟨aj, k, none⟩) (Or.inl (by simp)) _
  have hF := h.cF.keep arrA ka
  have hM := h.cM.keep arrA ka
  have hW := h.cW.keep arrW ka
  have hJ := h1.keep arrJ ka
  exact ⟨⟨RB, s, hp.only ho (fun g hg => by rw [List.mem_singleton.1 hg]; exact ⟨h.gj, _, _, _, hJ, arrJ⟩)⟩, ho.blk hF (by simp; exact blk_ne hF hJ (by decide)), ho.blk hM (by simp; exact blk_ne hM hJ (by decide)),
    ⟨upd PJ k (ptrV j), hJ.set hk _, fun i hi => by
      by_cases hik : i = k
      · subst hik; rw [upd_at, upd_at]
      · rw [upd_ne _ _ hik, upd_ne _ _ hik]; exact h2 i (by omega)⟩, ho.blk hW (by simp; exact blk_ne hW hJ (by decide)), h.gj, h.gw⟩
/-- A row of records has grown, and lies in the array. -/
theorem PaA.setW {w0 w w' : World} {p b k : Nat} {fr nb J : Nat → Nat} {LS WS : Nat → List Bs} {V : Nat → Value} {aF aM aj aw : Nat} (h : PaA w0 w p b fr nb 3 J LS WS V aF aM aj aw) (hk : k < 3) (y : Bs) (v : Value)
    (hown : w'.ownsRow w0.heap.size 9 1 v ((WS k).length + 1) ((WS k).map strV ++ [strV y])) (ho : Only (V k).ownBlock.toList w w') (hat : v.ownBlock = (V k).ownBlock ∨ ∀ g, v.ownBlock = some g → w.heap.size ≤ g) :
    PaA w0 (w'.setCell ⟨aw, k, none⟩ v) p b fr nb 3 J LS (upd WS k (WS k ++ [y])) (upd V k v) aF aM aj aw := by
  obtain ⟨RB, s, hp⟩ := h.pa
  obtain ⟨PJ, h1, h2⟩ := h.cJ
  have hp' := hp.grow hk y v hown ho hat
  have ka : KeepA w w' := KeepA.of_only ho (fun g hg => by
    obtain ⟨cs, f, h3⟩ := own_type (hp.vv k hk) (g := g) (by simpa using hg)
    exact ⟨_, _, _, h3, notArr_string⟩)
  have ho2 : Only [aw] w' (w'.setCell ⟨aw, k, none⟩ v) := (Only.refl _ _).setCell (p := ⟨aw, k, none⟩) (Or.inl (by simp)) _
  have hF := h.cF.keep arrA ka
  have hM := h.cM.keep arrA ka
  have hW := h.cW.keep arrW ka
  have hJ := h1.keep arrJ ka
  exact ⟨⟨RB, s, hp'.only ho2 (fun g hg => by rw [List.mem_singleton.1 hg]; exact ⟨h.gw, _, _, _, hW, arrW⟩)⟩, ho2.blk hF (by simp; exact blk_ne hF hW (by decide)), ho2.blk hM (by simp; exact blk_ne hM hW (by decide)),
    ⟨PJ, ho2.blk hJ (by simp; exact blk_ne hJ hW (by decide)), h2⟩, hW.set hk v, h.gj, h.gw⟩
theorem news_one (w : World) (v : Value) (t : TypeId) : ∀ (j : Nat) (u : Value), [v][j]? = some u → (w.alloc (.cells #[v] t)).cell? ((⟨w.heap.size, 0, none⟩ : Addr).add j) = some u := by
  intro j u hj
  match j, hj with
  | 0, hj => simp at hj; subst hj; simp [Addr.add]
def frX (X Y : Nat) : Nat → Nat := fun i => if i = 0 then 0 else if i = 1 then X else X + Y
def nbX (X Y : Nat) : Nat → Nat := fun i => if i = 0 then X else if i = 1 then Y else 60 - X - Y
theorem geoX {X Y : Nat} (hX : 1 ≤ X ∧ X ≤ 20) (hY : 1 ≤ Y ∧ Y ≤ 20) : Geo (frX X Y) (nbX X Y) := by
  refine ⟨fun i k hi hk hik => ?_, fun k hk => ?_⟩
  · have hi' : i = 0 ∨ i = 1 ∨ i = 2 := by omega
    have hk' : k = 0 ∨ k = 1 ∨ k = 2 := by omega
    rcases hi' with rfl | rfl | rfl <;> rcases hk' with rfl | rfl | rfl <;> simp [frX, nbX] <;> omega
  · have hk' : k = 0 ∨ k = 1 ∨ k = 2 := by omega
    rcases hk' with rfl | rfl | rfl <;> simp [frX, nbX] <;> omega
theorem arrF (X Y : Nat) : arr3 (intV (frX X Y)) = #[.int .i64 0, .int .i64 (X : Int), .int .i64 ((X : Int) + (Y : Int))] := by simp [arr3, intV, frX]
theorem arrM {X Y : Nat} (h : X + Y ≤ 60) : arr3 (intV (nbX X Y)) = #[.int .i64 (X : Int), .int .i64 (Y : Int), .int .i64 (60 - (X : Int) - (Y : Int))] := by
  have : ((60 - X - Y : Nat) : Int) = 60 - (X : Int) - (Y : Int) := by omega
  simp [arr3, intV, nbX, this]
theorem pa_new {w0 w : World} {p b : Nat} {fr nb J : Nat → Nat} {RB : Nat → Option Nat} (g : Geo fr nb) (hpb : w0.heap.size ≤ p ∧ w0.heap.size ≤ b) (hs : StoreIs w p b (St.new 60)) (ho : Only [] w0 w) : Pa w0 w p b fr nb 0 J RB (fun _ => []) (fun _ => []) (fun _ => .slice none 0 0) (St.new 60) :=
  { geo := g, n3 := by omega, pb := hpb, st := hs, sn := rfl, up := rfl, fu := rfl, jn := fun k hk => by omega, sd := fun k hk => by omega
    zz := fun k _ hk => ⟨part_new ⟨(g.has k hk).1, (g.has k hk).2⟩, rfl⟩, jj := fun i k hi => by omega, rr := fun i k hi => by omega
    vv := fun k hk => World.ownsRow_nil _ _ _ _, ww := fun i k _ _ _ g hg => by simp [Value.ownBlock] at hg, vr := fun i k _ hk => by omega, gj := fun k hk => by omega, gr := fun k hk => by omega, on := ho }
/-- The part that is not. -/
theorem pa_bad {w0 w : World} {p b : Nat} {fr nb J : Nat → Nat} {LS WS : Nat → List Bs} {V : Nat → Value} {aF aM aj aw : Nat} (h : PaA w0 w p b fr nb 3 J LS WS V aF aM aj aw) (x y : Int) (hB : isB 60 x y = false) :
    Calls Try.prog 29 #[.pointer (some ⟨p, 0, none⟩), .int .i64 x, .int .i64 y] w fun e w' => e = .returned (.tuple #[.pointer none, .slice none 0 0, .int .i64 1]) ∧ KeepA w w' ∧ PaA w0 w' p b fr nb 3 J LS WS V aF aM aj aw := by
  obtain ⟨RB, s, hp⟩ := h.pa
  have hB2 : isB s.n x y = false := by rw [hp.sn]; exact hB
  refine (part_no hp.st x y hB2).mono ?_
  rintro e w' ⟨ho, (⟨_, rfl, hs⟩ | ⟨a, c, _, _, rfl, rfl, hh, _⟩)⟩
  · have hO := hp.on.trans ho (by simp; exact hp.pb)
    refine ⟨rfl, hp.keepS ho, h.with (hp.keepS ho) ⟨RB, s, ?_⟩⟩
    refine { geo := hp.geo, n3 := hp.n3, pb := hp.pb, st := hs, sn := hp.sn, up := hp.up, fu := hp.fu, jn := fun i hi => ?_, sd := hp.sd, zz := hp.zz, jj := hp.jj, rr := hp.rr, vv := fun i hi => ?_, ww := hp.ww, vr := hp.vr, gj := hp.gj, gr := hp.gr, on := hO }
    · have ai := (hp.jn i hi).away hp.st
      exact (hp.jn i hi).only ho (by simp; exact ai.1) (fun g hg => by simp; exact ai.2.1 g hg)
    · refine own_keep (hp.vv i hi) ho (fun g hg => ?_)
      have hty := own_type (hp.vv i hi) hg
      simp
      exact ⟨ty_ne hty hp.st.typeP (by decide), ty_ne hty hp.st.typeB (by decide)⟩
  · rw [isB_has hh] at hB2; cases hB2
theorem pa_lookbad {w0 w : World} {p b : Nat} {fr nb J : Nat → Nat} {LS WS : Nat → List Bs} {V : Nat → Value} {aF aM aj aw : Nat} (h : PaA w0 w p b fr nb 3 J LS WS V aF aM aj aw) (x y : Int) (hB : isB 60 x y = false) :
    Calls Try.prog 30 #[.pointer (some ⟨p, 0, none⟩), .int .i64 x, .int .i64 y] w fun e w' => e = .returned (.slice none 0 0) ∧ Only [] w w' := by
  obtain ⟨RB, s, hp⟩ := h.pa
  have hB2 : isB s.n x y = false := by rw [hp.sn]; exact hB
  refine (look_of hp.st x y).mono ?_
  rintro e w' ⟨hb, (⟨_, rfl⟩ | ⟨a, c, rfl, rfl, hh, _⟩)⟩
  · exact ⟨rfl, Only.of_below hb⟩
  · rw [isB_has hh] at hB2; cases hB2
theorem paa_open {w0 w : World} {p b k : Nat} {fr nb J : Nat → Nat} {LS WS : Nat → List Bs} {V : Nat → Value} {aF aM aj aw : Nat} (h : PaA w0 w p b fr nb k J LS WS V aF aM aj aw) (hk : k < 3) : ∀ W, Only [] w W →
    Calls Try.prog 29 #[.pointer (some ⟨p, 0, none⟩), .int .i64 (fr k : Int), .int .i64 (nb k : Int)] W fun e w' => ∃ (j : Nat) (a : Option Addr) (n c : Nat) (xj : Value), e = .returned (.tuple #[.pointer (some ⟨j, 0, none⟩), .slice a n c, .int .i64 0]) ∧ w'.cell? ⟨aF, k, none⟩ = some (.int .i64 (fr k : Int)) ∧ w'.cell? ⟨aM, k, none⟩ = some (.int .i64 (nb k : Int)) ∧ w'.cell? ⟨aj, k, none⟩ = some xj ∧ w'.frozen? ⟨aj, k, none⟩ = false ∧
      PaA w0 (w'.setCell ⟨aj, k, none⟩ (.pointer (some ⟨j, 0, none⟩))) p b fr nb (k + 1) (upd J k j) LS WS V aF aM aj aw := fun W hW => by
  obtain ⟨RB, s, hp⟩ := h.pa
  refine (pa_open (hp.keep hW) hk).mono ?_
  rintro e w5 ⟨hk5, j, na, n5, cc, rfl, hj5, hp5⟩
  have hK := KeepA.trans (KeepA.of_nil hW) hk5
  obtain ⟨PJ, h1, h2⟩ := h.cJ
  exact ⟨j, na, n5, cc, PJ k, rfl, (h.cF.keep arrA hK).cell hk, (h.cM.keep arrA hK).cell hk, (h1.keep arrJ hK).cell hk, (h1.keep arrJ hK).frozen k, h.setJ hk hK hp5⟩
theorem paa_room {w0 w : World} {p b k : Nat} {fr nb J : Nat → Nat} {LS WS : Nat → List Bs} {V : Nat → Value} {aF aM aj aw n : Nat} (h : PaA w0 w p b fr nb n J LS WS V aF aM aj aw) (hk : k < n) (h0 : LS k = []) : ∀ W, Only [] w W →
    Calls Try.prog 27 #[.pointer (some ⟨J k, 0, none⟩)] W fun e w' => e = .returned (.int .i64 (32 * (nb k : Int))) ∧ Only [] w w' := fun W hW => by
  obtain ⟨RB, s, hp⟩ := h.pa
  refine (live_room ((hp.keep hW).live hk)).mono ?_
  rintro e w5 ⟨rfl, ho⟩
  refine ⟨?_, hW.tr ho⟩
  rw [h0]
  simp [frames_nil]
theorem cell_other {w : World} {g h k j : Nat} {u v : Value} (hc : w.cell? ⟨g, k, none⟩ = some u) (hne : g ≠ h) : (w.setCell ⟨h, j, none⟩ v).cell? ⟨g, k, none⟩ = some u := by
  have hlt : g < w.heap.size := by
    rcases Nat.lt_or_ge g w.heap.size with h2 | h2
    · exact h2
    · unfold World.cell? at hc
      rw [Array.getElem?_eq_none h2] at hc
      simp at hc
  have ho : Only [h] w (w.setCell ⟨h, j, none⟩ v) := (Only.refl _ _).setCell (p := ⟨h, j, none⟩) (Or.inl (by simp)) _
  exact (World.cell?_of_block (ho.block g hlt (by simpa using hne))).trans hc
theorem PaA.neJ {w0 w : World} {p b n : Nat} {fr nb J : Nat → Nat} {LS WS : Nat → List Bs} {V : Nat → Value} {aF aM aj aw : Nat} (h : PaA w0 w p b fr nb n J LS WS V aF aM aj aw) : aF ≠ aj ∧ aM ≠ aj := by
  obtain ⟨PJ, h1, h2⟩ := h.cJ
  exact ⟨blk_ne h.cF h1 (by decide), blk_ne h.cM h1 (by decide)⟩
theorem paa_app {w0 w : World} {p b k : Nat} {fr nb J : Nat → Nat} {LS WS : Nat → List Bs} {V : Nat → Value} {aF aM aj aw : Nat} (h : PaA w0 w p b fr nb 3 J LS WS V aF aM aj aw) (hk : k < 3) (y : Bs) : ∀ W, Only [] w W →
    Calls Try.prog 12 #[.pointer (some ⟨J k, 0, none⟩), .string (mkS y)] W fun e w' => ∃ c : Int, e = .returned (.int .i64 c) ∧ Only [] w0 w' ∧ w'.cell? ⟨aj, k, none⟩ = some (.pointer (some ⟨J k, 0, none⟩)) ∧
      (((c = 3 ∨ c = 14) ∧ PaA w0 w' p b fr nb 3 J LS WS V aF aM aj aw) ∨ (c = 0 ∧ PaA w0 w' p b fr nb 3 J (upd LS k (LS k ++ [y])) WS V aF aM aj aw)) := fun W hW => by
  obtain ⟨RB, s, hp⟩ := h.pa
  refine (pa_app (hp.keep hW) hk y).mono ?_
  rintro e w' ⟨hK, (⟨c, rfl, hc, hp'⟩ | ⟨rfl, hp'⟩)⟩
  · have hA := (h.keep hW).with hK hp'
    exact ⟨c, rfl, hA.on, hA.cellJ (Nat.le_refl _) hk, Or.inl ⟨hc, hA⟩⟩
  · have hA := (h.keep hW).with hK hp'
    exact ⟨0, rfl, hA.on, hA.cellJ (Nat.le_refl _) hk, Or.inr ⟨rfl, hA⟩⟩
theorem PaA.frozenW {w0 w : World} {p b n : Nat} {fr nb J : Nat → Nat} {LS WS : Nat → List Bs} {V : Nat → Value} {aF aM aj aw : Nat} (h : PaA w0 w p b fr nb n J LS WS V aF aM aj aw) (k : Nat) : w.frozen? ⟨aw, k, none⟩ = false := h.cW.frozen k
theorem PaA.rowK {w0 w : World} {p b n k : Nat} {fr nb J : Nat → Nat} {LS WS : Nat → List Bs} {V : Nat → Value} {aF aM aj aw : Nat} (h : PaA w0 w p b fr nb n J LS WS V aF aM aj aw) (hk : k < 3) : ∀ W, Only [] w W → W.ownsRow w0.heap.size 9 1 (V k) (WS k).length ((WS k).map strV) := fun W hW => by
  obtain ⟨RB, s, hp⟩ := h.pa
  exact own_keep (hp.vv k hk) hW (by simp)
/-- What an append to a row leaves. -/
theorem paa_grow {w0 w w' : World} {p b k g cap : Nat} {fr nb J : Nat → Nat} {LS WS : Nat → List Bs} {V : Nat → Value} {aF aM aj aw : Nat} (h : PaA w0 w p b fr nb 3 J LS WS V aF aM aj aw) (hk : k < 3) (y : Bs) (o : Obj)
    (hown : w'.ownsRow w0.heap.size 9 1 (.slice (some ⟨g, 0, none⟩) ((WS k).length + 1) cap) ((WS k).length + 1) ((WS k).map strV ++ [strV y])) (hg : (w.drew.alloc o).grownBy w' (V k).ownBlock) (hat : (V k).ownBlock = some g ∨ g = w.heap.size + 1) :
    (∃ x, w'.cell? ⟨aw, k, none⟩ = some x) ∧ w'.frozen? ⟨aw, k, none⟩ = false ∧ PaA w0 (w'.setCell ⟨aw, k, none⟩ (.slice (some ⟨g, 0, none⟩) ((WS k).length + 1) cap)) p b fr nb 3 J LS (upd WS k (WS k ++ [y])) (upd V k (.slice (some ⟨g, 0, none⟩) ((WS k).length + 1) cap)) aF aM aj aw := by
  have ho : Only (V k).ownBlock.toList w w' := (((Only.refl _ w).drew).alloc o).grown hg (fun x hx => Or.inl (by rw [hx]; simp))
  obtain ⟨RB, s, hp⟩ := h.pa
  have ka : KeepA w w' := KeepA.of_only ho (fun g hg => by
    obtain ⟨cs, f, h3⟩ := own_type (hp.vv k hk) (g := g) (by simpa using hg)
    exact ⟨_, _, _, h3, notArr_string⟩)
  have hW := h.cW.keep arrW ka
  refine ⟨⟨_, hW.cell hk⟩, hW.frozen k, h.setW hk y _ hown ho ?_⟩
  rcases hat with h1 | h1
  · exact Or.inl h1.symm
  · refine Or.inr (fun x hx => ?_)
    simp [Value.ownBlock] at hx
    omega
theorem paa_look {w0 w : World} {p b k : Nat} {fr nb J : Nat → Nat} {LS WS : Nat → List Bs} {V : Nat → Value} {aF aM aj aw : Nat} (h : PaA w0 w p b fr nb 3 J LS WS V aF aM aj aw) (hk : k < 3) : ∀ W, Only [] w W →
    Calls Try.prog 30 #[.pointer (some ⟨p, 0, none⟩), .int .i64 (fr k : Int), .int .i64 (nb k : Int)] W fun e w' => ∃ v, e = .returned v ∧ Only [] w w' ∧ RowS w' v (LS k) := fun W hW => by
  obtain ⟨RB, s, hp⟩ := h.pa
  refine (pa_look (hp.keep hW) hk).mono ?_
  rintro e w' ⟨v, rfl, hown, ho⟩
  exact ⟨v, rfl, hW.tr ho, RowS.of_own hown⟩
theorem paa_records {w0 w : World} {p b k : Nat} {fr nb J : Nat → Nat} {LS WS : Nat → List Bs} {V : Nat → Value} {aF aM aj aw : Nat} (h : PaA w0 w p b fr nb 3 J LS WS V aF aM aj aw) (hk : k < 3) : ∀ W, Only [] w W →
    Calls Try.prog 26 #[.pointer (some ⟨J k, 0, none⟩)] W fun e w' => ∃ v, e = .returned v ∧ Only [] w w' ∧ RowS w' v (LS k) := fun W hW => by
  obtain ⟨RB, s, hp⟩ := h.pa
  refine (pa_records (hp.keep hW) hk).mono ?_
  rintro e w' ⟨v, rfl, hown, ho⟩
  exact ⟨v, rfl, hW.tr ho, RowS.of_own hown⟩
theorem paa_reopen {w0 w : World} {p b k : Nat} {fr nb J : Nat → Nat} {LS WS : Nat → List Bs} {V : Nat → Value} {aF aM aj aw : Nat} (h : PaA w0 w p b fr nb 3 J LS WS V aF aM aj aw) (hk : k < 3) : ∀ W, Only [] w W →
    Calls Try.prog 29 #[.pointer (some ⟨p, 0, none⟩), .int .i64 (fr k : Int), .int .i64 (nb k : Int)] W fun e w' => ∃ (j : Nat) (v : Value), e = .returned (.tuple #[.pointer (some ⟨j, 0, none⟩), v, .int .i64 0]) ∧ w'.cell? ⟨aF, k, none⟩ = some (.int .i64 (fr k : Int)) ∧ w'.cell? ⟨aM, k, none⟩ = some (.int .i64 (nb k : Int)) ∧ RowS w' v (LS k) ∧ PaA w0 w' p b fr nb 3 J LS WS V aF aM aj aw := fun W hW => by
  obtain ⟨RB, s, hp⟩ := h.pa
  refine (pa_reopen (hp.keep hW) hk).mono ?_
  rintro e w' ⟨hK, ho, j, v, rfl, hown, hp'⟩
  have hA := (h.keep hW).with hK ⟨RB, hp'⟩
  exact ⟨j, v, rfl, hA.cellF hk, hA.cellM hk, RowS.of_own hown, hA⟩
theorem same_any {l : List Bs} (hl : l.length ≤ 1000000) : ∀ (W : World) (a b : Value), RowS W a l → RowS W b l → Calls Try.prog 21 #[a, b] W fun e w' => e = .returned (.bool true) ∧ Only [] W w' := fun W a b ha hb => Same_eq ha hb hl
theorem arrP : ArrT 62 := ⟨by decide, by decide, by decide, by decide⟩
def noParts : Array Value := #[.int .i64 (-1), .int .i64 3, .int .i64 60, .int .i64 1, .int .i64 0, .int .i64 61, .int .i64 59, .int .i64 2, .int .i64 5, .int .i64 0, .int .i64 1, .int .i64 9223372036854775807]
/-- The pair's cells, and the table's, behind a call. -/
theorem pair_keep {w w' : World} {x y : Value} (k : KeepA (w.alloc (.cells #[x, y] 62)) w') : w'.cell? ⟨w.heap.size, 0, none⟩ = some x ∧ w'.cell? ⟨w.heap.size, 1, none⟩ = some y := by
  have h := k _ _ _ _ arrP (blk_new w (.cells #[x, y] 62))
  exact ⟨blk_cell h 0, blk_cell h 1⟩
set_option maxHeartbeats 4000000 in
set_option maxRecDepth 100000 in
theorem JournalParts_walk (a1 a2 : Int) (v : Value) (l : List Bs) (u : Value) (m : List Int) (w : World) (h1 : 0 ≤ a1 ∧ a1 ≤ 255) (h2 : 0 ≤ a2 ∧ a2 ≤ 255) (hv : RowS w v l) (hl : l.length * 16 ≤ 140737488351232) (hx : ∀ x ∈ l, x.length ≤ 140737488351232) (hu : RowU w u m) (hm : m.length ≤ 140737488351232) (hy : ∀ x ∈ m, 0 ≤ x ∧ x ≤ 255) :
    Calls Try.prog 6 #[.int .u8 a1, .int .u8 a2, v, u] w fun e w' => e = .returned (.bool true) ∧ Below w.heap.size w w' := by
  obtain ⟨a, ca, rfl, hc⟩ := hv
  obtain ⟨au, cu, rfl, hcu⟩ := hu
  obtain ⟨L, hL⟩ : ∃ L, L = l.length := ⟨_, rfl⟩
  obtain ⟨M, hM⟩ : ∃ M, M = m.length := ⟨_, rfl⟩
  rw [← hL] at hl ⊢
  rw [← hM] at hm ⊢
  have HL := Lib.hid hL
  have HM := Lib.hid hM
  have HC := Lib.hid hc
  have HU := Lib.hid hcu
  have HX := Lib.hid hx
  have HY := Lib.hid hy
  clear hL hM hc hcu hx hy
  go_enter Try.func6, Try.ntmps6
  go_wp2_with fail
  refine (awake_of w).mono ?_
  rintro e w1 ⟨rfl, ho1⟩
  have HO1 := Lib.hid ho1
  clear ho1
  have HC1 := Lib.hid (row_keep HC.out HO1.out)
  go_wp2_with fail
  go_loopw [9, 36] (fun n i wr => ∃ (x : Int) (k : Nat), n = .int .i64 x ∧ i = .int .i64 (k : Int) ∧ k ≤ L ∧ Hid (L ≤ 30 → x = sumL (l.take k)) ∧ wr = w1) (fun _ i _ => L - (intOf i).toNat)
  case atStart => exact ⟨0, 0, rfl, rfl, Nat.zero_le _, Lib.hid (fun _ => by simp [sumL]), rfl⟩
  case round =>
    obtain ⟨x, k, rfl, rfl, hk, HS, rfl⟩ := hrel
    by_cases hkL : k < L
    · obtain ⟨y, hy⟩ : ∃ y, l[k]? = some y := ⟨_, List.getElem?_eq_getElem (by have := HL.out; omega)⟩
      obtain ⟨q, rfl, hcy⟩ := HC1.out k y hy
      unfold strV at hcy
      have hxy := HX.out y (List.mem_of_getElem? hy)
      have hmk : (mkS y).size = y.length := size_mkS y
      have HS2 : Hid (L ≤ 30 → wrap64 (x + (y.length : Int)) = sumL (l.take (k + 1))) := fun hL20 => by
        have h2 := sumL_le (l.take k) 140737488351232 (fun z hz => HX.out z (List.mem_of_mem_take hz))
        have h3 : (l.take k).length ≤ 30 := by rw [List.length_take]; omega
        have h4 : sumL (l.take k) ≤ 30 * 140737488351232 := Nat.le_trans h2 (Nat.mul_le_mul_right _ h3)
        rw [HS.out hL20, sumL_take l k y hy, IntWalk.wrap64_in _ (by omega)]
        omega
      have hc0 : (0 : Int) ≤ (k : Int) := by omega
      have hc1 : ((k : Int) < (L : Int)) := by omega
      have hwr : IntKind.i64.wrap ((k : Int) + 1) = (k : Int) + 1 := IntWalk.i64_in _ (by omega)
      have HYY := Lib.hid hy
      clear hy hxy
      go_wp2_with fail
      go_roundw
      case rel => exact ⟨_, k + 1, rfl, rfl, by omega, HS2, trivial⟩
      case measure => simp [intOf]; omega
    · have hkk : k = L := by omega
      subst hkk
      have HN : Hid (Calls Try.prog 8 #[.int .i64 60] wr fun e w' => e = .returned (.tuple #[.pointer (some ⟨wr.heap.size + 1, 0, none⟩), .int .i64 0]) ∧ StoreIs w' (wr.heap.size + 1) wr.heap.size (St.new 60) ∧ Only [] wr w') := new_up 60 (by decide) (by decide) wr
      obtain ⟨p, hp⟩ : ∃ p, p = wr.heap.size + 1 := ⟨_, rfl⟩
      obtain ⟨b, hb⟩ : ∃ b, b = wr.heap.size := ⟨_, rfl⟩
      rw [← hp, ← hb] at HN
      have hpb : w.heap.size ≤ p ∧ w.heap.size ≤ b := by have := HO1.out.size; omega
      clear hp hb HS hk hkL HC1
      go_wp2_with fail
      refine (HN.out).mono ?_
      rintro e w2 ⟨rfl, hs2, ho2⟩
      have HS2 := Lib.hid hs2
      have HO2 : Hid (Only [] w w2) := HO1.out.tr ho2
      clear hs2 ho2 HN HO1
      by_cases hx3 : 1500 < x
      · go_wp2_with fail
        go_ret
        exact ⟨rfl, HO2.out.below (Nat.le_refl _) (by simp)⟩
      · by_cases hL20 : 30 < (k : Int)
        · go_wp2_with fail
          go_ret
          exact ⟨rfl, HO2.out.below (Nat.le_refl _) (by simp)⟩
        · have hkk : k ≤ 30 := by omega
          have HKK := Lib.hid hkk
          go_wp2_with fail
          obtain ⟨X, hX⟩ : ∃ X : Nat, (1 + a1 % 20 : Int) = (X : Int) := ⟨(1 + a1 % 20).toNat, by omega⟩
          obtain ⟨Y, hY⟩ : ∃ Y : Nat, (1 + a2 % 20 : Int) = (Y : Int) := ⟨(1 + a2 % 20).toNat, by omega⟩
          have hX2 : 1 ≤ X ∧ X ≤ 20 := by omega
          have hY2 : 1 ≤ Y ∧ Y ≤ 20 := by omega
          rw [hX, hY]
          have hG := geoX hX2 hY2
          have hFe := arrF X Y
          have hMe := arrM (X := X) (Y := Y) (by omega)
          rw [← hFe, ← hMe]
          have hfour := four_new w2 (arr3 (intV (frX X Y))) (arr3 (intV (nbX X Y))) #[.pointer none, .pointer none, .pointer none] #[.slice none 0 0, .slice none 0 0, .slice none 0 0] 57 57 58 59
          generalize (((w2.alloc (.cells (arr3 (intV (frX X Y))) 57)).alloc (.cells (arr3 (intV (nbX X Y))) 57)).alloc (.cells #[.pointer none, .pointer none, .pointer none] 58)).alloc (.cells #[.slice none 0 0, .slice none 0 0, .slice none 0 0] 59) = w3 at *
          obtain ⟨q0, q1, q2, q3, q4⟩ := hfour
          generalize frX X Y = fr at *
          generalize nbX X Y = nb at *
          have hsz2 := HO2.out.size
          have hI : PaA w w3 p b fr nb 0 (fun _ => 0) (fun _ => []) (fun _ => []) (fun _ => .slice none 0 0) w2.heap.size (w2.heap.size + 1) (w2.heap.size + 1 + 1) (w2.heap.size + 1 + 1 + 1) :=
            ⟨⟨fun _ => none, St.new 60, pa_new hG hpb (HS2.out.only q4 (by simp) (by simp)) (HO2.out.tr q4)⟩, q0, q1, ⟨fun _ => .pointer none, q2, fun i hi => by omega⟩, q3, by omega, by omega⟩
          have HI := Lib.hid hI
          clear hI q0 q1 q2 q3 q4 hFe hMe
          generalize w2.heap.size + 1 + 1 + 1 = aw at *
          generalize w2.heap.size + 1 + 1 = aj at *
          generalize w2.heap.size + 1 = aM at *
          generalize w2.heap.size = aF at *
          have HNB : Hid (∀ k, k < 3 → nb k ≤ 60) := fun k hk => by have := (hG.has k hk).2; omega
          clear hG hX hY hX2 hY2 hx3 hL20 HS2 hsz2 hpb HO2
          go_loopw [86] (fun i wq => ∃ (q : Nat) (J : Nat → Nat), i = .int .i64 (q : Int) ∧ q ≤ 3 ∧ Hid (PaA w wq p b fr nb q J (fun _ => []) (fun _ => []) (fun _ => .slice none 0 0) aF aM aj aw)) (fun i _ => 3 - (intOf i).toNat)
          case atStart => exact ⟨0, _, rfl, by omega, HI⟩
          case round =>
            obtain ⟨q, J, rfl, hq, HI⟩ := hrel
            by_cases hq3 : q < 3
            · have c1 := HI.out.cellF hq3
              have c2 := HI.out.cellM hq3
              have hnb := HNB.out q hq3
              obtain ⟨R, hR⟩ : ∃ R : Int, R = 32 * (nb q : Int) := ⟨_, rfl⟩
              have hwR : IntKind.i64.wrap (32 * (nb q : Int)) = R := by rw [IntWalk.i64_in _ (by omega)]; omega
              have HR := Lib.hid hR
              have hc0 : (0 : Int) ≤ (q : Int) := by omega
              have hc1 : ((q : Int) < 3) := by omega
              have hwr : IntKind.i64.wrap ((q : Int) + 1) = (q : Int) + 1 := IntWalk.i64_in _ (by omega)
              clear hR
              go_wp2_with fail
              have HPA := Lib.hid (paa_open HI.out hq3)
              obtain ⟨hnJ1, hnJ2⟩ := HI.out.neJ
              go_region_held3 (fun w' => w'.cell? ⟨aF, q, none⟩ = some (.int .i64 (fr q : Int)) ∧ w'.cell? ⟨aM, q, none⟩ = some (.int .i64 (nb q : Int)))
                (first | go_keep | (go_split_ands; exact ⟨cell_other (by assumption) (by assumption), cell_other (by assumption) (by assumption)⟩))
                (first | (go_at_call 29; refine (HPA.out _ ((Only.refl [] _).drew)).mono ?_; rintro e w5 ⟨j, na, n5, cc, xj, rfl, d1, d2, d3, d4, hp5⟩; have HP5 := Lib.hid hp5; clear hp5))
              have e1 := HP5.out.cellJ (Nat.succ_le_of_lt hq3) (Nat.lt_succ_self q)
              rw [upd_at] at e1
              have e2 := HP5.out.cellM hq3
              have HRM := Lib.hid (paa_room HP5.out (Nat.lt_succ_self q) rfl)
              rw [upd_at, ← HR.out] at HRM
              clear hnJ1 hnJ2 c1 c2 d1 d2 d3 d4 HPA
              generalize w5.setCell ⟨aj, q, none⟩ (.pointer (some ⟨j, 0, none⟩)) = w6 at *
              go_wp2_with fail
              go_region_held3 (fun w' => w'.cell? ⟨aj, q, none⟩ = some (.pointer (some ⟨j, 0, none⟩)) ∧ w'.cell? ⟨aM, q, none⟩ = some (.int .i64 (nb q : Int)))
                (go_keep)
                (first | (go_at_call 27; refine (HRM.out _ ((Only.refl [] _).drew)).mono ?_; rintro e w7 ⟨rfl, ho7⟩; have HO7 := Lib.hid ho7; have d1 := cell_keep e1 ho7; have d2 := cell_keep e2 ho7; clear ho7))
              go_wp2_with fail
              go_roundw
              case rel => exact ⟨q + 1, upd J q j, rfl, by omega, Lib.hid (HP5.out.keep HO7.out)⟩
              case measure => simp [intOf]; omega
            · obtain rfl : q = 3 := by omega
              go_wp2_with fail
              have HI1 : Hid (∃ LS V, PaA w wr p b fr nb 3 J LS LS V aF aM aj aw) := ⟨_, _, HI.out⟩
              clear HI
              go_loopw [121] (fun i wq => ∃ q : Nat, i = .int .i64 (q : Int) ∧ q ≤ k ∧ Hid (∃ LS V, PaA w wq p b fr nb 3 J LS LS V aF aM aj aw)) (fun i _ => k - (intOf i).toNat)
              case atStart => exact ⟨0, rfl, Nat.zero_le _, HI1⟩
              case round =>
                obtain ⟨q, rfl, hq, HI⟩ := hrel
                by_cases hqk : q < k
                · obtain ⟨LS, V, hI⟩ := HI.out
                  have HI2 := Lib.hid hI
                  obtain ⟨y, hy⟩ : ∃ y, l[q]? = some y := ⟨_, List.getElem?_eq_getElem (by have := HL.out; omega)⟩
                  obtain ⟨ad, rfl, hcy⟩ := row_keep HC.out hI.on q y hy
                  unfold strV at hcy
                  have HYY := Lib.hid hy
                  have hc0 : (0 : Int) ≤ (q : Int) := by omega
                  have hc1 : ((q : Int) < (k : Int)) := by omega
                  have hwr : IntKind.i64.wrap ((q : Int) + 1) = (q : Int) + 1 := IntWalk.i64_in _ (by omega)
                  clear hy hI HI
                  go_upto_if 127 with (fail)
                  go_cut [21] (fun kv wc => ∃ K : Nat, K < 3 ∧ kv = .int .i64 (K : Int) ∧ wr = wc)
                  case first =>
                    by_cases hqM : q < M
                    · obtain ⟨z, hz⟩ : ∃ z, m[q]? = some z := ⟨_, List.getElem?_eq_getElem (by have := HM.out; omega)⟩
                      obtain ⟨au', rfl, hcz0⟩ := HU.out q z hz
                      have hcz := cell_keep hcz0 HI2.out.on
                      have hzb := HY.out z (List.mem_of_getElem? hz)
                      have hc2 : ((q : Int) < (M : Int)) := by omega
                      clear hz hcz0
                      go_wp2_with fail
                      go_meet
                      case rel => exact ⟨(z % 3).toNat, by omega, by rw [show ((z % 3).toNat : Int) = z % 3 by omega], rfl⟩
                    · have hc2 : ¬ ((q : Int) < (M : Int)) := by omega
                      go_wp2_with fail
                      go_meet
                      case rel => exact ⟨0, by omega, rfl, rfl⟩
                  case rest =>
                    obtain ⟨K, hK, rfl, rfl⟩ := hcut
                    have e1 := HI2.out.cellJ (Nat.le_refl _) hK
                    have HAP := Lib.hid (paa_app HI2.out hK y)
                    have hk0 : (0 : Int) ≤ (K : Int) := by omega
                    have hk1 : (K : Int) < 3 := by omega
                    go_wp2_with fail
                    go_region_held3 (fun w' => w'.cell? ⟨aj, K, none⟩ = some (.pointer (some ⟨J K, 0, none⟩)) ∧ w'.cell? (ad.add q) = some (.string (mkS y)))
                      (go_keep)
                      (first | (go_at_call 12; refine (HAP.out _ ((Only.refl [] _).drew)).mono ?_; rintro e w5 ⟨c, rfl, ho5, d1, hr5⟩; have HO5 := Lib.hid ho5; have HR5 := Lib.hid hr5; obtain ⟨ad', had, d2⟩ := row_keep HC.out ho5 q y HYY.out; cases had; unfold strV at d2; clear ho5 hr5))
                    rcases HR5.out with ⟨hc, hI5⟩ | ⟨rfl, hI5⟩
                    · have HI5 : Hid (∃ LS V, PaA w w5 p b fr nb 3 J LS LS V aF aM aj aw) := ⟨_, _, hI5⟩
                      clear hI5 HR5 e1 d1 d2 hcy
                      rcases hc with rfl | rfl
                      · go_wp2_with fail
                        go_roundw
                        case rel => exact ⟨q + 1, rfl, by omega, HI5⟩
                        case measure => simp [intOf]; omega
                      · go_wp2_with fail
                        go_roundw
                        case rel => exact ⟨q + 1, rfl, by omega, HI5⟩
                        case measure => simp [intOf]; omega
                    · have HI5 := Lib.hid hI5
                      have c4 := hI5.cellW hK
                      have f4 := hI5.frozenW K
                      have c5 : (w5.alloc (.cells #[.string (mkS y)] 9)).cell? ⟨aw, K, none⟩ = some (V K) := cell_keep c4 ((Only.refl [] w5).alloc _)
                      have HRK := Lib.hid (hI5.rowK hK)
                      have HSZ := Lib.hid hI5.on.size
                      have HLN : Hid ((LS K).length ≤ 2000) := HI2.out.few hK
                      obtain ⟨i0, hi, hz0, hz1, hz2⟩ := info_parts string_info
                      clear hI5 HR5 e1 d1 hcy
                      go_wp2_with fail
                      go_region_law ((refine step_append_lies _ (by rfl) _ _ 32 (by rfl) w.heap.size 9 i0 (.string ByteArray.empty) 1 16 Try.underlying32 hi hz0 hz1 hz2 rfl (by decide) (V K) _ _ (by rfl) (HRK.out _ (((Only.refl [] w5).drew).alloc _)) ⟨w5.heap.size, 0, none⟩ 1 1 [.string (mkS y)] (by rfl) rfl (news_one w5.drew _ _) (by intro u hu; simp at hu; subst hu; rfl) (by decide) (by have := HLN.out; unfold maxLen; omega) (by have := HLN.out; omega) (by have := HSZ.out; simp; omega) (w5.heap.size + 1) (by simp) ?_; intro g cap w6 hown6 hgrow6 hat6 hlt6; obtain ⟨⟨xw, d1⟩, d2, hp6⟩ := paa_grow HI5.out hK y _ hown6 hgrow6 hat6; have HP6 := Lib.hid hp6; clear hown6 hgrow6 hat6 hlt6 hp6))
                      all_goals go_wp2_with fail
                      all_goals go_roundw
                      all_goals first | exact ⟨q + 1, rfl, by omega, ⟨_, _, HP6.out⟩⟩ | (simp [intOf]; omega)
                · obtain rfl : q = k := by omega
                  clear HI1
                  go_wp2_with fail
                  go_loopw [162] (fun i wq => ∃ n : Nat, i = .int .i64 (n : Int) ∧ n ≤ 3 ∧ Hid (∃ LS V, PaA w wq p b fr nb 3 J LS LS V aF aM aj aw)) (fun i _ => 3 - (intOf i).toNat)
                  case atStart => exact ⟨0, rfl, by omega, HI⟩
                  case round =>
                    obtain ⟨n, rfl, hn, HI⟩ := hrel
                    by_cases hn3 : n < 3
                    · obtain ⟨LS, V, hI⟩ := HI.out
                      have HI2 := Lib.hid hI
                      have c1 := hI.cellF hn3
                      have c2 := hI.cellM hn3
                      have c3 := hI.cellW hn3
                      have HLK := Lib.hid (paa_look hI hn3)
                      have HSA := Lib.hid (same_any (l := LS n) (by have := hI.few hn3; omega))
                      have HV := Lib.hid (hI.rowW hn3)
                      have hc0 : (0 : Int) ≤ (n : Int) := by omega
                      have hc1 : ((n : Int) < 3) := by omega
                      have hwr : IntKind.i64.wrap ((n : Int) + 1) = (n : Int) + 1 := IntWalk.i64_in _ (by omega)
                      clear hI HI
                      go_wp2_with fail
                      go_region_held3 (fun w' => w'.cell? ⟨aF, n, none⟩ = some (.int .i64 (fr n : Int)) ∧ w'.cell? ⟨aM, n, none⟩ = some (.int .i64 (nb n : Int)) ∧ w'.cell? ⟨aw, n, none⟩ = some (V n))
                        (go_keep)
                        (first
                          | (go_at_call 30; refine (HLK.out _ ((Only.refl [] _).drew)).mono ?_; rintro e w5 ⟨v5, rfl, ho5, hr5⟩; have HO5 := Lib.hid ho5; have HR5 := Lib.hid hr5; have d1 := cell_keep c1 ho5; have d2 := cell_keep c2 ho5; have d3 := cell_keep c3 ho5; clear ho5 hr5)
                          | (go_at_call 21; refine (HSA.out _ _ _ HR5.out (HV.out.keep HO5.out)).mono ?_; rintro e w6 ⟨rfl, ho6⟩; have HO6 := Lib.hid (HO5.out.tr ho6); have d1 := cell_keep c1 HO6.out; have d2 := cell_keep c2 HO6.out; have d3 := cell_keep c3 HO6.out; clear ho6))
                      have HI6 := Lib.hid (HI2.out.keep HO6.out)
                      have HRO := Lib.hid (paa_reopen HI6.out hn3)
                      clear c1 c2 c3
                      have c1 := HI6.out.cellF hn3
                      have c2 := HI6.out.cellM hn3
                      clear HI2 HLK HV HO5 HR5
                      go_wp2_with fail
                      go_region_held3 (fun w' => w'.cell? ⟨aF, n, none⟩ = some (.int .i64 (fr n : Int)) ∧ w'.cell? ⟨aM, n, none⟩ = some (.int .i64 (nb n : Int)))
                        (go_keep)
                        (first
                          | (go_at_call 29; refine (HRO.out _ ((Only.refl [] _).drew)).mono ?_; rintro e w7 ⟨j7, v7, rfl, d1, d2, hr7, hI7⟩; have HR7 := Lib.hid hr7; have HI7 := Lib.hid hI7; clear hr7 hI7))
                      have c4 := HI7.out.cellW hn3
                      have c5 := HI7.out.cellJ (Nat.le_refl _) hn3
                      have HRC := Lib.hid (paa_records HI7.out hn3)
                      have HV7 := Lib.hid (HI7.out.rowW hn3)
                      clear c1 c2 HI6 HRO HO6
                      go_wp2_with fail
                      go_region_held3 (fun w' => w'.cell? ⟨aw, n, none⟩ = some (V n) ∧ w'.cell? ⟨aj, n, none⟩ = some (.pointer (some ⟨J n, 0, none⟩)))
                        (go_keep)
                        (first
                          | (go_at_call 26; refine (HRC.out _ HO8.out).mono ?_; rintro e w9 ⟨v9, rfl, ho9, hr9⟩; have HO9 := Lib.hid ho9; have HR9 := Lib.hid hr9; have d1 := cell_keep c4 ho9; have d2 := cell_keep c5 ho9; clear ho9 hr9)
                          | (go_at_call 21; refine (HSA.out _ _ _ HR9.out (HV7.out.keep HO9.out)).mono ?_; rintro e w10 ⟨rfl, ho10⟩; have HO10 := Lib.hid (HO9.out.tr ho10); have d1 := cell_keep c4 HO10.out; have d2 := cell_keep c5 HO10.out; clear ho10)
                          | (go_at_call 21; refine (HSA.out _ _ _ (HR7.out.keep ((Only.refl [] _).drew)) (HV7.out.keep ((Only.refl [] _).drew))).mono ?_; rintro e w8 ⟨rfl, ho8⟩; have HO8 := Lib.hid (((Only.refl [] _).drew).tr ho8); have d1 := cell_keep c4 HO8.out; have d2 := cell_keep c5 HO8.out; clear ho8))
                      have HI10 : Hid (∃ LS V, PaA w w10 p b fr nb 3 J LS LS V aF aM aj aw) := ⟨_, _, HI7.out.keep HO10.out⟩
                      go_wp2_with fail
                      go_roundw
                      case rel => exact ⟨n + 1, rfl, by omega, HI10⟩
                      case measure => simp [intOf]; omega
                    · have hc1 : ¬ ((n : Int) < 3) := by omega
                      go_wp2_with fail
                      have hT0 := blk_new wr (.cells noParts 62)
                      have HI0 : Hid (∃ LS V, PaA w (wr.alloc (.cells noParts 62)) p b fr nb 3 J LS LS V aF aM aj aw) := by
                        obtain ⟨LS, V, h⟩ := HI.out
                        exact ⟨LS, V, h.keep ((Only.refl [] wr).alloc _)⟩
                      unfold noParts at hT0 HI0
                      generalize wr.alloc (.cells #[.int .i64 (-1), .int .i64 3, .int .i64 60, .int .i64 1, .int .i64 0, .int .i64 61, .int .i64 59, .int .i64 2, .int .i64 5, .int .i64 0, .int .i64 1, .int .i64 9223372036854775807] 62) = w11 at *
                      generalize wr.heap.size = g at *
                      have HT := Lib.hid hT0
                      clear hT0 HI
                      go_loopw [220] (fun i wq => ∃ n : Int, i = .int .i64 n ∧ 0 ≤ n ∧ n ≤ 6 ∧ Hid (∃ LS V, PaA w wq p b fr nb 3 J LS LS V aF aM aj aw) ∧ Hid (wq.heap[g]? = some (.cells noParts 62 (0, 0)))) (fun i _ => (6 - intOf i).toNat)
                      case atStart => exact ⟨0, rfl, by omega, by omega, HI0, HT⟩
                      case round =>
                        obtain ⟨n, rfl, hn0, hn6, HI, HT⟩ := hrel
                        by_cases hn : n < 6
                        · obtain ⟨LS, V, hI⟩ := HI.out
                          have HI2 := Lib.hid hI
                          have HPB := Lib.hid (fun o => hI.keep ((Only.refl [] wr).alloc o))
                          have b0 : wr.cell? ⟨g, 0, none⟩ = some (.int .i64 (-1)) := blk_cell HT.out 0
                          have b1 : wr.cell? ⟨g, 1, none⟩ = some (.int .i64 3) := blk_cell HT.out 1
                          have b2 : wr.cell? ⟨g, 2, none⟩ = some (.int .i64 60) := blk_cell HT.out 2
                          have b3 : wr.cell? ⟨g, 3, none⟩ = some (.int .i64 1) := blk_cell HT.out 3
                          have b4 : wr.cell? ⟨g, 4, none⟩ = some (.int .i64 0) := blk_cell HT.out 4
                          have b5 : wr.cell? ⟨g, 5, none⟩ = some (.int .i64 61) := blk_cell HT.out 5
                          have b6 : wr.cell? ⟨g, 6, none⟩ = some (.int .i64 59) := blk_cell HT.out 6
                          have b7 : wr.cell? ⟨g, 7, none⟩ = some (.int .i64 2) := blk_cell HT.out 7
                          have b8 : wr.cell? ⟨g, 8, none⟩ = some (.int .i64 5) := blk_cell HT.out 8
                          have b9 : wr.cell? ⟨g, 9, none⟩ = some (.int .i64 0) := blk_cell HT.out 9
                          have b10 : wr.cell? ⟨g, 10, none⟩ = some (.int .i64 1) := blk_cell HT.out 10
                          have b11 : wr.cell? ⟨g, 11, none⟩ = some (.int .i64 9223372036854775807) := blk_cell HT.out 11
                          have hwr : IntKind.i64.wrap (n + 1) = n + 1 := IntWalk.i64_in _ (by omega)
                          clear hI HI
                          have hor : n = 0 ∨ n = 1 ∨ n = 2 ∨ n = 3 ∨ n = 4 ∨ n = 5 := by omega
                          rcases hor with rfl | rfl | rfl | rfl | rfl | rfl
                          all_goals go_wp2_with fail
                          all_goals refine (pa_bad (HPB.out _) _ _ (by decide)).mono ?_
                          all_goals rintro e w5 ⟨rfl, hk5, hp5⟩
                          all_goals obtain ⟨e0, e1⟩ := pair_keep hk5
                          all_goals have HP5 := Lib.hid hp5
                          all_goals have HT5 : Hid (w5.heap[g]? = some (.cells noParts 62 (0, 0))) := hk5 _ _ _ _ arrP (blk_alloc HT.out _)
                          all_goals clear hp5 hk5 b0 b1 b2 b3 b4 b5 b6 b7 b8 b9 b10 b11 HT HI2 HPB
                          all_goals go_wp2_with fail
                          all_goals refine (pa_lookbad HP5.out _ _ (by decide)).mono ?_
                          all_goals rintro e w6 ⟨rfl, ho6⟩
                          all_goals have HI6 : Hid (∃ LS V, PaA w w6 p b fr nb 3 J LS LS V aF aM aj aw) := ⟨_, _, HP5.out.keep ho6⟩
                          all_goals have HT6 : Hid (w6.heap[g]? = some (.cells noParts 62 (0, 0))) := ho6.blk HT5.out (by simp)
                          all_goals clear ho6 HP5 HT5
                          all_goals go_wp2_with fail
                          all_goals go_roundw
                          all_goals first | exact ⟨_, rfl, by decide, by decide, HI6, HT6⟩ | (simp [intOf]; done)
                        · obtain rfl : n = 6 := by omega
                          obtain ⟨LS, V, hI⟩ := HI.out
                          have HO := Lib.hid hI.on
                          clear hI
                          go_wp2_with fail
                          go_ret
                          exact ⟨rfl, HO.out.below (Nat.le_refl _) (by simp)⟩
end Go.Proofs.Ytngcdkbnljoodaa
