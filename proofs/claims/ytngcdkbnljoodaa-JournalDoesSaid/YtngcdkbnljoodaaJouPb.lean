/- Journals of three parts of a store, side by side. No conditions beyond those typed. -/
import Derived.Test.YtngcdkbnljoodaaJouPa
namespace Go.Proofs.Ytngcdkbnljoodaa
set_option linter.unusedVariables false
set_option linter.unusedSimpArgs false
open Go.RowKit Go.Proofs.YtngcdkbnljoodaaW.PrintWords

def upd {A : Type} (f : Nat → A) (k : Nat) (v : A) : Nat → A := fun i => if i = k then v else f i
theorem upd_at {A : Type} (f : Nat → A) (k : Nat) (v : A) : upd f k v k = v := if_pos rfl
theorem upd_ne {A : Type} (f : Nat → A) {i k : Nat} (v : A) (h : i ≠ k) : upd f k v i = f i := if_neg h
theorem upd_same {A : Type} (f : Nat → A) (k : Nat) : upd f k (f k) = f := by
  funext i
  by_cases h : i = k
  · rw [h, upd_at]
  · rw [upd_ne _ _ h]
/-- A type of which the journal turns nothing. -/
def ArrT (t : TypeId) : Prop := t ≠ 67 ∧ t ≠ 81 ∧ t ≠ 76 ∧ t ≠ 9
/-- What is of no such type stays. -/
def KeepA (w w' : World) : Prop := ∀ (g : Nat) (cs : Array Value) (t : TypeId) (f : Nat × Nat), ArrT t → w.heap[g]? = some (.cells cs t f) → w'.heap[g]? = some (.cells cs t f)
theorem KeepA.trans {a b c : World} (h : KeepA a b) (k : KeepA b c) : KeepA a c := fun g cs t f ht hg => k g cs t f ht (h g cs t f ht hg)
theorem KeepA.of_only {S : List Nat} {w w' : World} (ho : Only S w w') (hS : ∀ g, g ∈ S → ∃ cs t f, w.heap[g]? = some (.cells cs t f) ∧ ¬ ArrT t) : KeepA w w' := fun g cs t f ht hg => by
  refine ho.blk hg (fun hm => ?_)
  obtain ⟨cs', t', f', h1, h2⟩ := hS g hm
  rw [hg] at h1
  cases h1
  exact h2 ht
theorem KeepA.of_nil {w w' : World} (ho : Only [] w w') : KeepA w w' := KeepA.of_only ho (by simp)
theorem notArr_string : ¬ ArrT 9 := fun h => h.2.2.2 rfl
theorem notArr_jn : ¬ ArrT 76 := fun h => h.2.2.1 rfl
/-- The three parts of a store of 60 blocks. -/
structure Geo (fr nb : Nat → Nat) : Prop where
  ne : ∀ i k, i < 3 → k < 3 → i ≠ k → fr i + nb i ≤ fr k ∨ fr k + nb k ≤ fr i
  has : ∀ k, k < 3 → 1 ≤ nb k ∧ fr k + nb k ≤ 60
/-- The store, the first n parts' journals, and three rows of records. -/
structure Pa (w0 w : World) (p b : Nat) (fr nb : Nat → Nat) (n : Nat) (J : Nat → Nat) (RB : Nat → Option Nat) (LS WS : Nat → List Bs) (V : Nat → Value) (s : St) : Prop where
  geo : Geo fr nb
  n3 : n ≤ 3
  pb : w0.heap.size ≤ p ∧ w0.heap.size ≤ b
  st : StoreIs w p b s
  sn : s.n = 60
  up : s.down = false
  fu : s.fuse = -1
  jn : ∀ k, k < n → JnIs w (J k) (RB k) p (fr k) (nb k) (LS k) (frames (LS k)).length false
  sd : ∀ k, k < n → Sound s (fr k) (nb k) (LS k)
  zz : ∀ k, n ≤ k → k < 3 → partB s (fr k) (nb k) = zs (32 * nb k) ∧ LS k = []
  jj : ∀ i k, i < n → k < n → i ≠ k → J i ≠ J k
  rr : ∀ i k, i < n → k < n → i ≠ k → ∀ g, RB i = some g → RB k ≠ some g
  vv : ∀ k, k < 3 → w.ownsRow w0.heap.size 9 1 (V k) (WS k).length ((WS k).map strV)
  ww : ∀ i k, i < 3 → k < 3 → i ≠ k → ∀ g, (V i).ownBlock = some g → (V k).ownBlock ≠ some g
  vr : ∀ i k, i < 3 → k < n → ∀ g, (V i).ownBlock = some g → RB k ≠ some g
  gj : ∀ k, k < n → w0.heap.size ≤ J k
  gr : ∀ k, k < n → ∀ g, RB k = some g → w0.heap.size ≤ g
  on : Only [] w0 w
theorem Pa.live {w0 w : World} {p b n : Nat} {fr nb J : Nat → Nat} {RB : Nat → Option Nat} {LS WS : Nat → List Bs} {V : Nat → Value} {s : St} (h : Pa w0 w p b fr nb n J RB LS WS V s) {k : Nat} (hk : k < n) : Live w p b (J k) (RB k) s (fr k) (nb k) (LS k) :=
  ⟨h.st, h.jn k hk, h.sd k hk, h.up⟩
theorem own_type {w : World} {base n : Nat} {v : Value} {xs : List Value} (h : w.ownsRow base 9 1 v n xs) {g : Nat} (hg : v.ownBlock = some g) : ∃ cs f, w.heap[g]? = some (.cells cs 9 f) := by
  obtain ⟨cells, hc⟩ := own_typed h g hg
  exact ⟨_, _, hc⟩
theorem JnIs.typeJ {w : World} {j p pf nb fin : Nat} {rb : Option Nat} {l : List Bs} {o : Bool} (h : JnIs w j rb p pf nb l fin o) : ∃ cs f, w.heap[j]? = some (.cells cs 76 f) := by
  obtain ⟨v, hv, _⟩ := h.ex
  exact ⟨_, _, hv⟩
theorem JnIs.typeR {w : World} {j p pf nb fin : Nat} {rb : Option Nat} {l : List Bs} {o : Bool} (h : JnIs w j rb p pf nb l fin o) {g : Nat} (hg : rb = some g) : ∃ cs f, w.heap[g]? = some (.cells cs 9 f) := by
  obtain ⟨v, hv, hown, hr⟩ := h.ex
  exact own_type hown (hr.trans hg)
theorem StoreIs.typeP {w : World} {p b : Nat} {s : St} (h : StoreIs w p b s) : ∃ cs f, w.heap[p]? = some (.cells cs 67 f) := by
  obtain ⟨_, _, ⟨wr, z⟩, _⟩ := h
  exact ⟨_, _, z⟩
theorem StoreIs.typeB {w : World} {p b : Nat} {s : St} (h : StoreIs w p b s) : ∃ cs f, w.heap[b]? = some (.cells cs 81 f) := ⟨_, _, h.row⟩
theorem ty_ne {w : World} {g k : Nat} {t u : TypeId} (h : ∃ cs f, w.heap[g]? = some (.cells cs t f)) (h2 : ∃ cs f, w.heap[k]? = some (.cells cs u f)) (hn : t ≠ u) : g ≠ k := by
  rintro rfl
  obtain ⟨cs, f, h⟩ := h
  obtain ⟨cs2, f2, h2⟩ := h2
  rw [h] at h2
  cases h2
  exact hn rfl
theorem ty_lt {w : World} {g : Nat} {t : TypeId} (h : ∃ cs f, w.heap[g]? = some (.cells cs t f)) : g < w.heap.size := by
  obtain ⟨cs, f, h⟩ := h
  exact blk_lt h
theorem ty_not {w : World} {g : Nat} {t : TypeId} {S : List Nat} (h : ∃ cs f, w.heap[g]? = some (.cells cs t f)) (hS : ∀ g, g ∈ S → ∃ cs u f, w.heap[g]? = some (.cells cs u f) ∧ u ≠ t) : g ∉ S := fun hm => by
  obtain ⟨cs, u, f, h1, h2⟩ := hS g hm
  obtain ⟨cs2, f2, h⟩ := h
  rw [h] at h1
  cases h1
  exact h2 rfl
/-- All stays but for blocks of other types. -/
theorem Pa.only {S : List Nat} {w0 w w' : World} {p b n : Nat} {fr nb J : Nat → Nat} {RB : Nat → Option Nat} {LS WS : Nat → List Bs} {V : Nat → Value} {s : St} (h : Pa w0 w p b fr nb n J RB LS WS V s) (ho : Only S w w')
    (hS : ∀ g, g ∈ S → w0.heap.size ≤ g ∧ ∃ cs t f, w.heap[g]? = some (.cells cs t f) ∧ ArrT t) : Pa w0 w' p b fr nb n J RB LS WS V s := by
  have h1 : ∀ g t, (∃ cs f, w.heap[g]? = some (.cells cs t f)) → ¬ ArrT t → g ∉ S := fun g t hg ht hm => by
    obtain ⟨_, cs, u, f, h1, h2⟩ := hS g hm
    obtain ⟨cs2, f2, h3⟩ := hg
    rw [h3] at h1
    cases h1
    exact ht h2
  exact { geo := h.geo, n3 := h.n3, pb := h.pb, sn := h.sn, up := h.up, fu := h.fu, sd := h.sd, zz := h.zz, jj := h.jj, rr := h.rr, ww := h.ww, vr := h.vr, gj := h.gj, gr := h.gr
          st := h.st.only ho (h1 _ _ h.st.typeP (fun h => h.1 rfl)) (h1 _ _ h.st.typeB (fun h => h.2.1 rfl))
          jn := fun k hk => (h.jn k hk).only ho (h1 _ _ (h.jn k hk).typeJ notArr_jn) (fun g hg => h1 _ _ ((h.jn k hk).typeR hg) notArr_string)
          vv := fun k hk => own_keep (h.vv k hk) ho (fun g hg => h1 _ _ (own_type (h.vv k hk) hg) notArr_string)
          on := h.on.trans ho (fun x hx => Or.inr (hS x hx).1) }
theorem Pa.keep {w0 w w' : World} {p b n : Nat} {fr nb J : Nat → Nat} {RB : Nat → Option Nat} {LS WS : Nat → List Bs} {V : Nat → Value} {s : St} (h : Pa w0 w p b fr nb n J RB LS WS V s) (ho : Only [] w w') : Pa w0 w' p b fr nb n J RB LS WS V s := h.only ho (by simp)
/-- What an append to a part's journal turns is of no other type. -/
theorem Pa.keepA {w0 w w' : World} {p b n k : Nat} {fr nb J : Nat → Nat} {RB : Nat → Option Nat} {LS WS : Nat → List Bs} {V : Nat → Value} {s : St} (h : Pa w0 w p b fr nb n J RB LS WS V s) (hk : k < n) (ho : Only ([p, b] ++ (J k :: (RB k).toList)) w w') : KeepA w w' := by
  refine KeepA.of_only ho (fun g hg => ?_)
  simp at hg
  rcases hg with rfl | rfl | rfl | hg
  · obtain ⟨cs, f, h2⟩ := h.st.typeP; exact ⟨cs, _, f, h2, fun h => h.1 rfl⟩
  · obtain ⟨cs, f, h2⟩ := h.st.typeB; exact ⟨cs, _, f, h2, fun h => h.2.1 rfl⟩
  · obtain ⟨cs, f, h2⟩ := (h.jn k hk).typeJ; exact ⟨cs, _, f, h2, notArr_jn⟩
  · obtain ⟨cs, f, h2⟩ := (h.jn k hk).typeR hg; exact ⟨cs, _, f, h2, notArr_string⟩
theorem Pa.keepS {w0 w w' : World} {p b n : Nat} {fr nb J : Nat → Nat} {RB : Nat → Option Nat} {LS WS : Nat → List Bs} {V : Nat → Value} {s : St} (h : Pa w0 w p b fr nb n J RB LS WS V s) (ho : Only [p, b] w w') : KeepA w w' := by
  refine KeepA.of_only ho (fun g hg => ?_)
  simp at hg
  rcases hg with rfl | rfl
  · obtain ⟨cs, f, h2⟩ := h.st.typeP; exact ⟨cs, _, f, h2, fun h => h.1 rfl⟩
  · obtain ⟨cs, f, h2⟩ := h.st.typeB; exact ⟨cs, _, f, h2, fun h => h.2.1 rfl⟩
/-- One append: a part's journal takes the record, or it doesn't. -/
def AppP (w0 : World) (p b : Nat) (fr nb J : Nat → Nat) (LS WS : Nat → List Bs) (V : Nat → Value) (k : Nat) (y : Bs) (w : World) (e : Ending) (w' : World) : Prop := KeepA w w' ∧
  ((∃ c : Int, e = .returned (.int .i64 c) ∧ (c = 3 ∨ c = 14) ∧ ∃ RB s, Pa w0 w' p b fr nb 3 J RB LS WS V s) ∨
    (e = .returned (.int .i64 0) ∧ ∃ RB s, Pa w0 w' p b fr nb 3 J RB (upd LS k (LS k ++ [y])) WS V s))
theorem pa_app {w0 w : World} {p b k : Nat} {fr nb J : Nat → Nat} {RB : Nat → Option Nat} {LS WS : Nat → List Bs} {V : Nat → Value} {s : St} (h : Pa w0 w p b fr nb 3 J RB LS WS V s) (hk : k < 3) (y : Bs) :
    Calls Try.prog 12 #[.pointer (some ⟨J k, 0, none⟩), .string (mkS y)] w (AppP w0 p b fr nb J LS WS V k y w) := by
  have hsz := size_mkS y
  have hli := list_mkS y
  by_cases hb : (mkS y).size = 0 ∨ 400 < (mkS y).size
  · refine (append_bad (mkS y) hb).mono ?_
    rintro e _ ⟨rfl, rfl⟩
    exact ⟨fun _ _ _ _ _ h => h, Or.inl ⟨3, rfl, Or.inl rfl, RB, s, h⟩⟩
  · by_cases hroom : (frames (LS k)).length + ((mkS y).size + 8) ≤ 32 * nb k
    · refine (app_sure (h.live hk) h.fu (mkS y) (by omega) (by omega) hroom).mono ?_
      rintro e w' ⟨rfl, s', P, rb', hP, hT, ho, hrb', hl', hfu⟩
      rw [hli] at hl'
      have aw := (h.jn k hk).away h.st
      have hO := only_own h.on ho h.pb (h.gj k hk) (h.gr k hk)
      refine ⟨h.keepA hk ho, Or.inr ⟨rfl, upd RB k rb', s', ?_⟩⟩
      have hrbk : ∀ i g, i < 3 → upd RB k rb' i = some g → (RB i = some g ∨ (i = k ∧ w.heap.size ≤ g)) := fun i g hi hg => by
        by_cases hik : i = k
        · subst hik
          rw [upd_at] at hg
          rcases hrb' g hg with h2 | h2
          · exact Or.inl h2
          · exact Or.inr ⟨rfl, h2⟩
        · rw [upd_ne _ _ hik] at hg
          exact Or.inl hg
      have hrlt : ∀ i g, i < 3 → RB i = some g → g < w.heap.size := fun i g hi hg => ty_lt ((h.jn i hi).typeR hg)
      refine { geo := h.geo, n3 := h.n3, pb := h.pb, st := hl'.st, sn := hT.n.trans h.sn, up := hl'.up, fu := hfu, jn := fun i hi => ?_, sd := fun i hi => ?_, zz := fun i hi hi3 => by omega, jj := h.jj, rr := fun i m hi hm him g hg e => ?_, vv := fun i hi => ?_, ww := h.ww, vr := fun i m hi hm g hg e => ?_, gj := h.gj, gr := fun i hi g hg => ?_, on := hO }
      · by_cases hik : i = k
        · subst hik
          rw [upd_at, upd_at]
          exact hl'.jn
        · rw [upd_ne _ _ hik, upd_ne _ _ hik]
          have ai := (h.jn i hi).away h.st
          refine (h.jn i hi).only ho ?_ (fun g hg => ?_)
          · simp
            exact ⟨ai.1.1, ai.1.2, h.jj i k hi hk hik, fun e => ty_ne (h.jn i hi).typeJ ((h.jn k hk).typeR e) (by decide) rfl⟩
          · simp
            exact ⟨(ai.2.1 g hg).1, (ai.2.1 g hg).2, ty_ne ((h.jn i hi).typeR hg) (h.jn k hk).typeJ (by decide), h.rr i k hi hk hik g hg⟩
      · by_cases hik : i = k
        · subst hik
          rw [upd_at]
          exact hl'.sd
        · rw [upd_ne _ _ hik]
          exact Sound.other (h.sd k hk).has hP hT (h.sd i hi) (h.geo.ne i k hi hk hik)
      · rcases hrbk i g hi hg with h1 | ⟨rfl, h1⟩
        · rcases hrbk m g hm e with h2 | ⟨rfl, h2⟩
          · exact h.rr i m hi hm him g h1 h2
          · have := hrlt i g hi h1; omega
        · rcases hrbk m g hm e with h2 | ⟨rfl, h2⟩
          · have := hrlt m g hm h2; omega
          · exact him rfl
      · refine own_keep (h.vv i hi) ho (fun g hg => ?_)
        have hty := own_type (h.vv i hi) hg
        simp
        exact ⟨ty_ne hty h.st.typeP (by decide), ty_ne hty h.st.typeB (by decide), ty_ne hty (h.jn k hk).typeJ (by decide), h.vr i k hi hk g hg⟩
      · rcases hrbk m g hm e with h2 | ⟨rfl, h2⟩
        · exact h.vr i m hi hm g hg h2
        · have := ty_lt (own_type (h.vv i hi) hg); omega
      · rcases hrbk i g hi hg with h2 | ⟨rfl, h2⟩
        · exact h.gr i hi g h2
        · have := h.on.size; omega
    · refine (app_full (h.live hk) (mkS y) (by omega) (by omega) (by omega)).mono ?_
      rintro e w' ⟨rfl, ho⟩
      exact ⟨KeepA.of_nil ho, Or.inl ⟨14, rfl, Or.inr rfl, RB, s, h.keep ho⟩⟩
theorem has_of {fr nb : Nat → Nat} {s : St} (g : Geo fr nb) (hn : s.n = 60) {k : Nat} (hk : k < 3) : s.Has (fr k) (nb k) := ⟨(g.has k hk).1, by rw [hn]; exact (g.has k hk).2⟩
/-- The next part is opened. -/
theorem pa_open {w0 w : World} {p b k : Nat} {fr nb J : Nat → Nat} {RB : Nat → Option Nat} {LS WS : Nat → List Bs} {V : Nat → Value} {s : St} (h : Pa w0 w p b fr nb k J RB LS WS V s) (hk : k < 3) :
    Calls Try.prog 29 #[.pointer (some ⟨p, 0, none⟩), .int .i64 (fr k : Int), .int .i64 (nb k : Int)] w fun e w' => KeepA w w' ∧ ∃ (j : Nat) (a : Option Addr) (n c : Nat), e = .returned (.tuple #[.pointer (some ⟨j, 0, none⟩), .slice a n c, .int .i64 0]) ∧ w0.heap.size ≤ j ∧ ∃ RB s, Pa w0 w' p b fr nb (k + 1) (upd J k j) RB LS WS V s := by
  have hh := has_of h.geo h.sn hk
  have hz := h.zz k (Nat.le_refl _) hk
  refine (part_up h.st hh h.up h.fu (l := []) (t := zs (32 * nb k)) ⟨by rw [hz.1]; rfl, by simp, oneL_zs _⟩).mono ?_
  rintro e w' ⟨s', j, rb, v, rfl, hl, hfu, ⟨P, hP, hT⟩, hj, hrb, hown, hne, ho⟩
  obtain ⟨va, vc, rfl, _⟩ := RowS.of_own hown
  have hsz := h.on.size
  refine ⟨h.keepS ho, j, va, _, vc, rfl, by omega, upd RB k rb, s', ?_⟩
  have hJ : ∀ i, i < k → J i < w.heap.size := fun i hi => ty_lt (h.jn i hi).typeJ
  have hR : ∀ i, i < k → ∀ g, RB i = some g → g < w.heap.size := fun i hi g hg => ty_lt ((h.jn i hi).typeR hg)
  have hO := h.on.trans ho (by simp; exact h.pb)
  refine { geo := h.geo, n3 := hk, pb := h.pb, st := hl.st, sn := hT.n.trans h.sn, up := hl.up, fu := hfu, jn := fun i hi => ?_, sd := fun i hi => ?_, zz := fun i hi hi3 => ?_, jj := fun i m hi hm him => ?_, rr := fun i m hi hm him g hg e => ?_, vv := fun i hi => ?_, ww := h.ww, vr := fun i m hi hm g hg e => ?_, gj := fun i hi => ?_, gr := fun i hi g hg => ?_, on := hO }
  · by_cases hik : i = k
    · subst hik
      rw [upd_at, upd_at, hz.2]
      exact hl.jn
    · have hi' : i < k := by omega
      rw [upd_ne _ _ hik, upd_ne _ _ hik]
      have ai := (h.jn i hi').away h.st
      exact (h.jn i hi').only ho (by simp; exact ai.1) (fun g hg => by simp; exact ai.2.1 g hg)
  · by_cases hik : i = k
    · subst hik
      rw [hz.2]
      exact hl.sd
    · exact Sound.other hh hP hT (h.sd i (by omega)) (h.geo.ne i k (by omega) hk hik)
  · have hik : i ≠ k := by omega
    have hi2 := h.zz i (by omega) hi3
    exact ⟨by rw [hT.other h.st.wf hh hP (has_of h.geo h.sn hi3) (h.geo.ne i k hi3 hk hik)]; exact hi2.1, hi2.2⟩
  · by_cases hik : i = k
    · subst hik
      have := hJ m (by omega)
      rw [upd_at, upd_ne _ _ (fun e => him e.symm)]; omega
    · by_cases hmk : m = k
      · subst hmk
        have := hJ i (by omega)
        rw [upd_at, upd_ne _ _ him]; omega
      · rw [upd_ne _ _ hik, upd_ne _ _ hmk]
        exact h.jj i m (by omega) (by omega) him
  · by_cases hik : i = k
    · subst hik
      rw [upd_at] at hg
      rw [upd_ne _ _ (fun e => him e.symm)] at e
      have := hR m (by omega) g e
      have := hrb g hg
      omega
    · rw [upd_ne _ _ hik] at hg
      by_cases hmk : m = k
      · subst hmk
        rw [upd_at] at e
        have := hR i (by omega) g hg
        have := hrb g e
        omega
      · rw [upd_ne _ _ hmk] at e
        exact h.rr i m (by omega) (by omega) him g hg e
  · refine own_keep (h.vv i hi) ho (fun g hg => ?_)
    have hty := own_type (h.vv i hi) hg
    simp
    exact ⟨ty_ne hty h.st.typeP (by decide), ty_ne hty h.st.typeB (by decide)⟩
  · by_cases hmk : m = k
    · subst hmk
      rw [upd_at] at e
      have := hrb g e
      have := ty_lt (own_type (h.vv i hi) hg); omega
    · rw [upd_ne _ _ hmk] at e
      exact h.vr i m hi (by omega) g hg e
  · by_cases hik : i = k
    · subst hik
      rw [upd_at]; omega
    · rw [upd_ne _ _ hik]; exact h.gj i (by omega)
  · by_cases hik : i = k
    · subst hik
      rw [upd_at] at hg
      have := hrb g hg; omega
    · rw [upd_ne _ _ hik] at hg; exact h.gr i (by omega) g hg
/-- A part is opened again. -/
theorem pa_reopen {w0 w : World} {p b k : Nat} {fr nb J : Nat → Nat} {RB : Nat → Option Nat} {LS WS : Nat → List Bs} {V : Nat → Value} {s : St} (h : Pa w0 w p b fr nb 3 J RB LS WS V s) (hk : k < 3) :
    Calls Try.prog 29 #[.pointer (some ⟨p, 0, none⟩), .int .i64 (fr k : Int), .int .i64 (nb k : Int)] w fun e w' => KeepA w w' ∧ Only [p, b] w w' ∧ ∃ (j : Nat) (v : Value), e = .returned (.tuple #[.pointer (some ⟨j, 0, none⟩), v, .int .i64 0]) ∧ w'.ownsRow w.heap.size 9 1 v (LS k).length ((LS k).map strV) ∧ ∃ s, Pa w0 w' p b fr nb 3 J RB LS WS V s := by
  have hh := has_of h.geo h.sn hk
  refine (part_up h.st hh h.up h.fu (h.sd k hk).scan).mono ?_
  rintro e w' ⟨s', j, rb, v, rfl, hl, hfu, ⟨P, hP, hT⟩, hj, hrb, hown, hne, ho⟩
  refine ⟨h.keepS ho, ho, j, v, rfl, hown, s', ?_⟩
  have hO := h.on.trans ho (by simp; exact h.pb)
  refine { geo := h.geo, n3 := h.n3, pb := h.pb, st := hl.st, sn := hT.n.trans h.sn, up := hl.up, fu := hfu, jn := fun i hi => ?_, sd := fun i hi => ?_, zz := fun i hi hi3 => by omega, jj := h.jj, rr := h.rr, vv := fun i hi => ?_, ww := h.ww, vr := h.vr, gj := h.gj, gr := h.gr, on := hO }
  · have ai := (h.jn i hi).away h.st
    exact (h.jn i hi).only ho (by simp; exact ai.1) (fun g hg => by simp; exact ai.2.1 g hg)
  · by_cases hik : i = k
    · subst hik
      exact hl.sd
    · exact Sound.other hh hP hT (h.sd i (by omega)) (h.geo.ne i k (by omega) hk hik)
  · refine own_keep (h.vv i hi) ho (fun g hg => ?_)
    have hty := own_type (h.vv i hi) hg
    simp
    exact ⟨ty_ne hty h.st.typeP (by decide), ty_ne hty h.st.typeB (by decide)⟩
/-- A look at a part. -/
theorem pa_look {w0 w : World} {p b k : Nat} {fr nb J : Nat → Nat} {RB : Nat → Option Nat} {LS WS : Nat → List Bs} {V : Nat → Value} {s : St} (h : Pa w0 w p b fr nb 3 J RB LS WS V s) (hk : k < 3) :
    Calls Try.prog 30 #[.pointer (some ⟨p, 0, none⟩), .int .i64 (fr k : Int), .int .i64 (nb k : Int)] w fun e w' => ∃ v, e = .returned v ∧ w'.ownsRow w.heap.size 9 1 v (LS k).length ((LS k).map strV) ∧ Only [] w w' := by
  have hh := has_of h.geo h.sn hk
  refine (look_of h.st (fr k : Int) (nb k : Int)).mono ?_
  rintro e w' ⟨hb, (⟨hB, _⟩ | ⟨a, c, ha, hc, _, v, l', t', rfl, hsc', hown⟩)⟩
  · rw [isB_has hh] at hB; cases hB
  · obtain rfl : fr k = a := by omega
    obtain rfl : nb k = c := by omega
    obtain ⟨rfl, _⟩ := IsScan.uniq (h.sd k hk).scan hsc'
    exact ⟨v, rfl, hown, Only.of_below hb⟩
theorem Pa.few {w0 w : World} {p b k n : Nat} {fr nb J : Nat → Nat} {RB : Nat → Option Nat} {LS WS : Nat → List Bs} {V : Nat → Value} {s : St} (h : Pa w0 w p b fr nb n J RB LS WS V s) (hk : k < n) : (LS k).length ≤ 2000 := by
  have h1 := frames_count (LS k)
  have h2 := (h.sd k hk).fits
  have h3 := h.n3
  have h4 := (h.geo.has k (by omega)).2
  omega
theorem pa_records {w0 w : World} {p b k : Nat} {fr nb J : Nat → Nat} {RB : Nat → Option Nat} {LS WS : Nat → List Bs} {V : Nat → Value} {s : St} (h : Pa w0 w p b fr nb 3 J RB LS WS V s) (hk : k < 3) :
    Calls Try.prog 26 #[.pointer (some ⟨J k, 0, none⟩)] w fun e w' => ∃ v, e = .returned v ∧ w'.ownsRow w.heap.size 9 1 v (LS k).length ((LS k).map strV) ∧ Only [] w w' := by
  have := h.few hk
  refine (jrecords_of (h.jn k hk) (by omega)).mono ?_
  rintro e w' ⟨v, rfl, hown, hb⟩
  exact ⟨v, rfl, hown, Only.of_below hb⟩
theorem Pa.mapV {n : Nat} {w0 w : World} {p b k : Nat} {fr nb J : Nat → Nat} {RB : Nat → Option Nat} {LS WS : Nat → List Bs} {V : Nat → Value} {s : St} (h : Pa w0 w p b fr nb n J RB LS WS V s) (hk : k < 3) : RowS w (V k) (WS k) := RowS.of_own (h.vv k hk)
/-- A row of records grows. -/
theorem Pa.grow {w0 w w' : World} {p b k : Nat} {fr nb J : Nat → Nat} {RB : Nat → Option Nat} {LS WS : Nat → List Bs} {V : Nat → Value} {s : St} (h : Pa w0 w p b fr nb 3 J RB LS WS V s) (hk : k < 3) (y : Bs) (v : Value)
    (hown : w'.ownsRow w0.heap.size 9 1 v ((WS k).length + 1) ((WS k).map strV ++ [strV y])) (ho : Only (V k).ownBlock.toList w w') (hat : v.ownBlock = (V k).ownBlock ∨ ∀ g, v.ownBlock = some g → w.heap.size ≤ g) : Pa w0 w' p b fr nb 3 J RB LS (upd WS k (WS k ++ [y])) (upd V k v) s := by
  have hm : ∀ x, x ∈ (V k).ownBlock.toList → (V k).ownBlock = some x := fun x hx => by simpa using hx
  have hty : ∀ x, x ∈ (V k).ownBlock.toList → ∃ cs f, w.heap[x]? = some (.cells cs 9 f) := fun x hx => own_type (h.vv k hk) (hm x hx)
  have hnt : ∀ g t, (∃ cs f, w.heap[g]? = some (.cells cs t f)) → t ≠ 9 → g ∉ (V k).ownBlock.toList := fun g t hg ht hx => ty_ne hg (hty g hx) ht rfl
  have hvb : ∀ i g, i < 3 → i ≠ k → (V i).ownBlock = some g → g ∉ (V k).ownBlock.toList := fun i g hi hik hg hx => h.ww i k hi hk hik g hg (hm g hx)
  have hrb : ∀ i g, i < 3 → RB i = some g → g ∉ (V k).ownBlock.toList := fun i g hi hg hx => h.vr k i hk hi g (hm g hx) hg
  refine { geo := h.geo, n3 := h.n3, pb := h.pb, sn := h.sn, up := h.up, fu := h.fu, sd := h.sd, zz := h.zz, jj := h.jj, rr := h.rr, gj := h.gj, gr := h.gr
           st := h.st.only ho (hnt _ _ h.st.typeP (by decide)) (hnt _ _ h.st.typeB (by decide))
           jn := fun i hi => (h.jn i hi).only ho (hnt _ _ (h.jn i hi).typeJ (by decide)) (fun g hg => hrb i g hi hg)
           vv := fun i hi => ?_, ww := fun i m hi hm2 him g hg e => ?_, vr := fun i m hi hm2 g hg e => ?_
           on := h.on.trans ho (fun x hx => Or.inr ((h.vv k hk).lt x (hm x hx)).1) }
  · by_cases hik : i = k
    · subst hik
      rw [upd_at, upd_at, List.length_append, List.map_append]
      exact hown
    · rw [upd_ne _ _ hik, upd_ne _ _ hik]
      exact own_keep (h.vv i hi) ho (fun g hg => hvb i g hi hik hg)
  · by_cases hik : i = k
    · subst hik
      rw [upd_at] at hg
      rw [upd_ne _ _ (fun e => him e.symm)] at e
      rcases hat with h2 | h2
      · rw [h2] at hg
        exact h.ww i m hi hm2 him g hg e
      · have := h2 g hg
        have := ((h.vv m hm2).lt g e).2
        omega
    · rw [upd_ne _ _ hik] at hg
      by_cases hmk : m = k
      · subst hmk
        rw [upd_at] at e
        rcases hat with h2 | h2
        · rw [h2] at e
          exact h.ww i m hi hm2 him g hg e
        · have := h2 g e
          have := ((h.vv i hi).lt g hg).2
          omega
      · rw [upd_ne _ _ hmk] at e
        exact h.ww i m hi hm2 him g hg e
  · by_cases hik : i = k
    · subst hik
      rw [upd_at] at hg
      rcases hat with h2 | h2
      · rw [h2] at hg
        exact h.vr i m hi hm2 g hg e
      · have := h2 g hg
        have := ty_lt ((h.jn m hm2).typeR e)
        omega
    · rw [upd_ne _ _ hik] at hg
      exact h.vr i m hi hm2 g hg e
end Go.Proofs.Ytngcdkbnljoodaa
