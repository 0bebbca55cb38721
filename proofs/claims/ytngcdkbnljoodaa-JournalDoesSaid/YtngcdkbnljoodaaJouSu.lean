/- JournalSure's walk. No conditions beyond those typed. -/
import Derived.Test.YtngcdkbnljoodaaJouZ
namespace Go.Proofs.Ytngcdkbnljoodaa
set_option linter.unusedVariables false
set_option linter.unusedSimpArgs false
open Go.RowKit Go.Proofs.YtngcdkbnljoodaaW.PrintWords

def sumL (l : List Bs) : Nat := l.foldr (fun x n => x.length + n) 0
theorem sumL_snoc (l : List Bs) (x : Bs) : sumL (l ++ [x]) = sumL l + x.length := by
  induction l with
  | nil => simp [sumL]
  | cons a l ih => simp [sumL] at ih ⊢; omega
theorem sumL_take (l : List Bs) (k : Nat) (x : Bs) (h : l[k]? = some x) : sumL (l.take (k + 1)) = sumL (l.take k) + x.length := by
  rw [List.take_add_one, h]
  exact sumL_snoc _ _
theorem sumL_le (l : List Bs) (B : Nat) (h : ∀ x ∈ l, x.length ≤ B) : sumL l ≤ l.length * B := by
  induction l with
  | nil => exact Nat.zero_le _
  | cons a l ih =>
    have h1 := h a (by simp)
    have h2 := ih (fun x hx => h x (by simp [hx]))
    show a.length + sumL l ≤ (l.length + 1) * B
    rw [Nat.add_mul]; omega
theorem row_keep {w w' : World} {a : Option Addr} {l : List Bs} (hc : ∀ k x, l[k]? = some x → ∃ p, a = some p ∧ w.cell? (p.add k) = some (strV x)) (ho : Only [] w w') : ∀ k x, l[k]? = some x → ∃ p, a = some p ∧ w'.cell? (p.add k) = some (strV x) := fun k x hx => by
  obtain ⟨p, hp, hq⟩ := hc k x hx
  refine ⟨p, hp, ?_⟩
  have hlt : (p.add k).block < w.heap.size := by
    rcases Nat.lt_or_ge (p.add k).block w.heap.size with h | h
    · exact h
    · unfold World.cell? at hq
      rw [Array.getElem?_eq_none h] at hq
      simp at hq
  exact (World.cell?_of_block (ho.block _ hlt (by simp))).trans hq
theorem RowS.keep {w w' : World} {v : Value} {l : List Bs} (h : RowS w v l) (ho : Only [] w w') : RowS w' v l := by
  obtain ⟨a, c, rfl, hc⟩ := h
  refine ⟨a, c, rfl, fun k x hx => ?_⟩
  obtain ⟨p, hp, hq⟩ := hc k x hx
  refine ⟨p, hp, ?_⟩
  have hlt : (p.add k).block < w.heap.size := by
    rcases Nat.lt_or_ge (p.add k).block w.heap.size with h | h
    · exact h
    · unfold World.cell? at hq
      rw [Array.getElem?_eq_none h] at hq
      simp at hq
  exact (World.cell?_of_block (ho.block _ hlt (by simp))).trans hq
theorem sumL_take_le (l : List Bs) (k : Nat) : sumL (l.take k) ≤ sumL l := by
  induction l generalizing k with
  | nil => simp
  | cons a l ih =>
    cases k with
    | zero => exact Nat.zero_le _
    | succ k => exact Nat.add_le_add_left (ih k) _
/-- The store, the journal and the row of what is sure, within the loop. -/
def SureIn (w0 wr : World) (p b j nb : Nat) (u : Value) (ls : List Bs) : Prop :=
  ∃ rb s, Live wr p b j rb s 0 nb ls ∧ s.n = nb ∧ wr.ownsRow w0.heap.size 9 1 u ls.length (ls.map strV) ∧ (∀ g, u.ownBlock = some g → rb ≠ some g) ∧ (∀ g, rb = some g → w0.heap.size ≤ g) ∧ Only [] w0 wr ∧ u ≠ .slice none 0 0
theorem SureIn.nz {w0 w : World} {p b j nb : Nat} {u : Value} {ls : List Bs} (h : SureIn w0 w p b j nb u ls) : u ≠ .slice none 0 0 := by
  obtain ⟨_, _, _, _, _, _, _, _, hz⟩ := h
  exact hz
theorem SureIn.only {w0 w w' : World} {p b j nb : Nat} {u : Value} {ls : List Bs} (h : SureIn w0 w p b j nb u ls) (ho : Only [] w w') : SureIn w0 w' p b j nb u ls := by
  obtain ⟨rb, s, hl, hn, hu, hne, hrb, ho', hz⟩ := h
  exact ⟨rb, s, hl.only ho (by simp) (by simp) (by simp) (by simp), hn, own_keep hu ho (by simp), hne, hrb, ho'.tr ho, hz⟩
/-- One append within the loop: what is sure stays, or grows, or the power goes. -/
def SureStep (w0 : World) (p b j nb : Nat) (u : Value) (ls : List Bs) (y : Bs) (e : Ending) (w' : World) : Prop :=
  (∃ c : Int, e = .returned (.int .i64 c) ∧ c ≠ 0 ∧ c ≠ 16 ∧ SureIn w0 w' p b j nb u ls) ∨
    (e = .returned (.int .i64 0) ∧ ∃ rb s, Live w' p b j rb s 0 nb (ls ++ [y]) ∧ s.n = nb ∧ w'.ownsRow w0.heap.size 9 1 u ls.length (ls.map strV) ∧ (∀ g, u.ownBlock = some g → rb ≠ some g) ∧ (∀ g, rb = some g → w0.heap.size ≤ g) ∧ Only [] w0 w') ∨
    (e = .returned (.int .i64 16) ∧ y ≠ [] ∧ ∃ s m t, StoreIs w' p b s ∧ s.n = nb ∧ IsScan (partB s 0 nb) m t ∧ (m = ls ∨ m = ls ++ [y]) ∧ w'.ownsRow w0.heap.size 9 1 u ls.length (ls.map strV) ∧ Only [] w0 w')
theorem sure_step {w0 w : World} {p b j nb : Nat} {u : Value} {ls : List Bs} (h : SureIn w0 w p b j nb u ls) (hpb : w0.heap.size ≤ p ∧ w0.heap.size ≤ b) (hj : w0.heap.size ≤ j) (y : Bs) (hroom : y.length ≤ 400 → (frames ls).length + (y.length + 8) ≤ 32 * nb) :
    Calls Try.prog 12 #[.pointer (some ⟨j, 0, none⟩), .string (mkS y)] w (SureStep w0 p b j nb u ls y) := by
  have hsz := size_mkS y
  have hli := list_mkS y
  by_cases hb : (mkS y).size = 0 ∨ 400 < (mkS y).size
  · refine (append_bad (mkS y) hb).mono ?_
    rintro e _ ⟨rfl, rfl⟩
    exact Or.inl ⟨3, rfl, by decide, by decide, h⟩
  · obtain ⟨rb, s, hl, hn, hu, hne, hrb, ho, hz⟩ := h
    have haw := hl.jn.away hl.st
    have hua := own_away hu hl.st hl.jn
    refine (app_go hl (mkS y) (by omega) (by omega) (by have := hroom (by omega); omega)).mono ?_
    rintro e w' ⟨s', P, hP, hT, ho', hr⟩
    rw [hli] at hr
    have hO := only_own ho ho' hpb hj hrb
    have hu' := own_keep hu ho' (by simp; exact fun g hg => ⟨(hua g hg).1, (hua g hg).2.1, (hua g hg).2.2, hne g hg⟩)
    rcases hr with ⟨rfl, rb', hrb', hl', _⟩ | ⟨rfl, _, hs', _, m, t, hm, hsc⟩
    · refine Or.inr (Or.inl ⟨rfl, rb', s', hl', hT.n.trans hn, hu', fun g hg e => ?_, rb_ge ho hrb hrb', hO⟩)
      rcases hrb' g e with h2 | h2
      · exact hne g hg h2
      · have := (hu.lt g hg).2; omega
    · refine Or.inr (Or.inr ⟨rfl, ?_, s', m, t, hs', hT.n.trans hn, hsc, hm, hu', hO⟩)
      rintro rfl
      exact hb (Or.inl hsz)
theorem own_empty (w : World) (t : TypeId) (base : Nat) (h : base ≤ w.heap.size) : (w.alloc (.cells #[] t)).ownsRow base t 1 (.slice (some ⟨w.heap.size, 0, none⟩) 0 0) 0 [] :=
  ⟨rfl, Or.inr ⟨w.heap.size, 0, #[], rfl, h, blk_new w _, Nat.le_refl _, Nat.zero_le _, rfl, rfl⟩⟩
theorem SureIn.empty {w0 w : World} {p b j nb : Nat} {rb : Option Nat} {s : St} (hl : Live w p b j rb s 0 nb []) (hn : s.n = nb) (hrb : ∀ g, rb = some g → w0.heap.size ≤ g) (ho : Only [] w0 w) : SureIn w0 (w.alloc (.cells #[] 9)) p b j nb (.slice (some ⟨w.heap.size, 0, none⟩) 0 0) [] := by
  have ha := (Only.refl [] w).alloc (.cells #[] 9)
  have haw := hl.jn.away hl.st
  exact ⟨rb, s, hl.only ha (by simp) (by simp) (by simp) (by simp), hn, own_empty w _ _ ho.size, fun g hg e => by cases hg; exact absurd (haw.2.2.2 _ e) (Nat.lt_irrefl _), hrb, ho.tr ha, by intro h; cases h⟩
/-- And behind it. -/
def SureOut (w0 wc : World) (p b nb : Nat) (u : Value) (un : Value) : Prop :=
  ∃ (s : St) (ls m : List Bs) (t y : Bs), StoreIs wc p b s ∧ s.n = nb ∧ IsScan (partB s 0 nb) m t ∧ wc.ownsRow w0.heap.size 9 1 u ls.length (ls.map strV) ∧ un = strV y ∧ (m = ls ∨ (y ≠ [] ∧ m = ls ++ [y])) ∧ (frames m).length ≤ 3160 ∧ ls.length ≤ 20 ∧ Only [] w0 wc ∧ u ≠ .slice none 0 0
theorem SureOut.torn {w0 w : World} {p b nb : Nat} {u : Value} {s : St} {ls m : List Bs} {t y : Bs} (hs : StoreIs w p b s) (hn : s.n = nb) (hsc : IsScan (partB s 0 nb) m t) (hu : w.ownsRow w0.heap.size 9 1 u ls.length (ls.map strV)) (hm : m = ls ∨ m = ls ++ [y]) (hy : y ≠ [])
    (h1 : (frames ls).length ≤ 3160) (h2 : (frames (ls ++ [y])).length ≤ 3160) (h3 : ls.length ≤ 20) (ho : Only [] w0 w) (hz : u ≠ .slice none 0 0) : SureOut w0 w p b nb u (.string (mkS y)) :=
  ⟨s, ls, m, t, y, hs, hn, hsc, hu, rfl, by rcases hm with h | h; exact Or.inl h; exact Or.inr ⟨hy, h⟩, by rcases hm with h | h <;> rw [h] <;> assumption, h3, ho, hz⟩
theorem SureIn.grown {w0 w w' : World} {p b j nb : Nat} {rb : Option Nat} {s : St} {u v : Value} {ls : List Bs} {y : Bs} (hl : Live w p b j rb s 0 nb (ls ++ [y])) (hn : s.n = nb) (hu : w.ownsRow w0.heap.size 9 1 u ls.length (ls.map strV)) (hne : ∀ g, u.ownBlock = some g → rb ≠ some g)
    (hrb : ∀ g, rb = some g → w0.heap.size ≤ g) (ho : Only [] w0 w) (o : Obj) (hown : w'.ownsRow w0.heap.size 9 1 v (ls.length + 1) (ls.map strV ++ [strV y])) (hg : (w.alloc o).grownBy w' u.ownBlock) (hat : v.ownBlock = u.ownBlock ∨ v.ownBlock = some (w.heap.size + 1)) (hnil : v ≠ .slice none 0 0) :
    SureIn w0 w' p b j nb v (ls ++ [y]) := by
  have haw := hl.jn.away hl.st
  have hua := own_away hu hl.st hl.jn
  have hO : Only u.ownBlock.toList w w' := ((Only.refl _ w).alloc o).grown hg (fun k hk => Or.inl (by rw [hk]; simp))
  have hm : ∀ x, x ∈ u.ownBlock.toList → u.ownBlock = some x := fun x hx => by simpa using hx
  refine ⟨rb, s, hl.only hO (fun hx => (hua p (hm p hx)).1 rfl) (fun hx => (hua b (hm b hx)).2.1 rfl) (fun hx => (hua j (hm j hx)).2.2 rfl) (fun g hg hx => hne g (hm g hx) hg), hn, by rw [List.length_append, List.map_append]; exact hown, fun g hg2 e => ?_, hrb, ho.trans hO (fun x hx => Or.inr (hu.lt x (hm x hx)).1), hnil⟩
  rcases hat with h | h
  · exact hne g (h ▸ hg2) e
  · rw [h] at hg2
    cases hg2
    have := haw.2.2.2 _ e
    omega
theorem own_store {w : World} {p b base n : Nat} {v : Value} {xs : List Value} {s : St} (h : w.ownsRow base 9 1 v n xs) (hs : StoreIs w p b s) : ∀ g, v.ownBlock = some g → g ≠ p ∧ g ≠ b := fun g hg => by
  obtain ⟨_, _, ⟨wr, z3⟩, z4⟩ := hs
  obtain ⟨cells, hc⟩ := own_typed h g hg
  exact ⟨(fun e => by rw [e, z3] at hc; cases hc), (fun e => by rw [e, z4] at hc; cases hc)⟩
theorem RowS.of_n {w : World} {base n : Nat} {v : Value} {l : List Bs} (h : w.ownsRow base 9 1 v n (l.map strV)) (hn : n = l.length) : RowS w v l := by
  subst hn
  exact RowS.of_own h
theorem bytes_ne {y : Bs} (h : y ≠ []) : ((mkS y).toList == ([] : List UInt8)) = false := by
  rw [ByteArray.toList_eq, list_mkS, beq_eq_false_iff_ne]
  exact h
/-- The append law at an operation whose guard wants it. -/
theorem append_want {P : Program} (w : World) {ops : Array Oper} {rest : List Oper} {o : Oper} {a : Act} {Q : Exit → Act → World → Prop} (hw : Region.wanted o (yielded ops a.tmps) = true) (s x : Operand) (t : TypeId)
    (ho : o.op = .call { callee := .builtin .append, args := #[s, x], argTypes := #[t, t] })
    (base : Nat) (e : TypeId) (i : TypeInfo) (z : Value) (size bytes : Nat) (ht : P.underlying t = some (.slice e)) (hi : P.info? e = some i) (hz : i.zero = some z)
    (hsize : i.size = size) (hby : i.bytes = bytes) (hzs : z.cells.size = size) (hsz : 0 < size)
    (v : Value) (n : Nat) (xs : List Value) (hs : a.eval s = v) (hown : w.ownsRow base e size v n xs)
    (ad : Addr) (m c : Nat) (news : List Value) (hx : a.eval x = .slice (some ad) m c) (hl : news.length = m * size) (hnews : ∀ j u, news[j]? = some u → w.cell? (ad.add j) = some u) (h1 : ∀ u ∈ news, u.oneCell' = true)
    (h63 : n + m ≤ maxLen) (hbytes : (n + m) * bytes ≤ 140737488355328) (hbase : base ≤ w.heap.size)
    (h : ∀ v' w', w'.ownsRow base e size v' (n + m) (xs ++ news) → w.grownBy w' v.ownBlock → (v'.ownBlock = v.ownBlock ∨ v'.ownBlock = some w.heap.size) → wpList P ops Q rest (a.put o.dst v') w') :
    wpList P ops Q (o :: rest) a w := by
  refine BigFrame.wpList_want hw fun K hK => ?_
  obtain ⟨v', w', hr, h2, h3, h4, h5⟩ := run_append_own_at (P := P) w base t o.type e i z size bytes ht hi hz hsize hby hzs hsz v n xs hown ad m c news hl hnews h1 h63 hbytes hbase
  unfold Oper.wp execOp
  simp only [ho, resolve, invoke, builtin, Sem.run_bind, Sem.run_pure, Result.andThen_ok, List.map_toArray, List.map_cons, List.map_nil, hs, hx, hr]
  exact hK _ _ (h v' w' h2 h3 h5)
def goesOn : Bs := [103, 111, 101, 115, 32, 111, 110]
theorem Same_ne {w : World} {v u : Value} {l m : List Bs} (hv : RowS w v l) (hu : RowS w u m) (hl : l.length ≤ 1000000) (hne : l ≠ m) :
    Calls Try.prog 21 #[v, u] w fun e w' => e = .returned (.bool false) ∧ Only [] w w' := by
  refine (Same_of hv hu (by omega)).mono ?_
  rintro e w' ⟨rfl, d, rfl⟩
  exact ⟨by rw [decide_eq_false hne], (Only.refl _ _).drewN d⟩
theorem grown_new {w w' : World} {o : Obj} {row : Option Nat} (hg : (w.alloc o).grownBy w' row) (hr : ∀ g, row = some g → w.heap.size ≤ g) : Only [] w w' :=
  ((Only.refl [] w).alloc o).grown hg (fun k hk => Or.inr (hr k hk))
theorem SureIn.out {w0 w : World} {p b j nb : Nat} {u : Value} {ls : List Bs} (h : SureIn w0 w p b j nb u ls) (h1 : (frames ls).length ≤ 3160) (h2 : ls.length ≤ 20) : SureOut w0 w p b nb u (.string ByteArray.empty) := by
  obtain ⟨rb, s, hl, hn, hu, hne, hrb, ho, hz⟩ := h
  exact ⟨s, ls, ls, _, [], hl.st, hn, hl.sd.scan, hu, rfl, Or.inl rfl, h1, h2, ho, hz⟩
set_option maxHeartbeats 4000000 in
set_option maxRecDepth 100000 in
theorem JournalSure_walk (v : Value) (l : List Bs) (a1 a2 : Int) (w : World) (hv : RowS w v l) (hl : l.length * 16 ≤ 140737488351232) (hx : ∀ x ∈ l, x.length ≤ 140737488351232) (h1 : 0 ≤ a1 ∧ a1 ≤ 255) (h2 : 0 ≤ a2 ∧ a2 ≤ 255) :
    Calls Try.prog 4 #[v, .int .u8 a1, .int .u8 a2] w fun e w' => e = .returned (.bool true) ∧ Below w.heap.size w w' := by
  obtain ⟨a, ca, rfl, hc⟩ := hv
  obtain ⟨L, hL⟩ : ∃ L, L = l.length := ⟨_, rfl⟩
  rw [← hL] at hl ⊢
  have HL := Lib.hid hL
  have HC := Lib.hid hc
  have HX := Lib.hid hx
  clear hL hc hx
  go_enter Try.func4, Try.ntmps4
  go_wp2_with fail
  refine (awake_of w).mono ?_
  rintro e w1 ⟨rfl, ho1⟩
  have HO1 := Lib.hid ho1
  clear ho1
  have HC1 : Hid (∀ k x, l[k]? = some x → ∃ p, a = some p ∧ w1.cell? (p.add k) = some (strV x)) := by
    obtain ⟨a', c', he, h⟩ := RowS.keep (v := .slice a l.length ca) ⟨a, ca, rfl, HC.out⟩ HO1.out
    cases he
    exact h
  go_wp2_with fail
  go_loopw [7, 30] (fun n i wr => ∃ (x : Int) (k : Nat), n = .int .i64 x ∧ i = .int .i64 (k : Int) ∧ k ≤ L ∧ Hid (L ≤ 20 → x = sumL (l.take k)) ∧ wr = w1) (fun _ i _ => L - (intOf i).toNat)
  case atStart => exact ⟨0, 0, rfl, rfl, Nat.zero_le _, Lib.hid (fun _ => by simp [sumL]), rfl⟩
  case round =>
    obtain ⟨x, k, rfl, rfl, hk, HS, rfl⟩ := hrel
    by_cases hkL : k < L
    · obtain ⟨y, hy⟩ : ∃ y, l[k]? = some y := ⟨_, List.getElem?_eq_getElem (by have := HL.out; omega)⟩
      obtain ⟨q, rfl, hcy⟩ := HC1.out k y hy
      unfold strV at hcy
      have hxy := HX.out y (List.mem_of_getElem? hy)
      have hmk : (mkS y).size = y.length := size_mkS y
      have HS2 : Hid (L ≤ 20 → wrap64 (x + (y.length : Int)) = sumL (l.take (k + 1))) := fun hL20 => by
        have h2 := sumL_le (l.take k) 140737488351232 (fun z hz => HX.out z (List.mem_of_mem_take hz))
        have h3 : (l.take k).length ≤ 20 := by rw [List.length_take]; omega
        have h4 : sumL (l.take k) ≤ 20 * 140737488351232 := Nat.le_trans h2 (Nat.mul_le_mul_right _ h3)
        rw [HS.out hL20, sumL_take l k y hy, IntWalk.wrap64_in _ (by omega)]
        omega
      have hc0 : (0 : Int) ≤ (k : Int) := by omega
      have hc1 : ((k : Int) < (L : Int)) := by omega
      have hwr : IntKind.i64.wrap ((k : Int) + 1) = (k : Int) + 1 := IntWalk.i64_in _ (by omega)
      have HY := Lib.hid hy
      clear hy hxy
      go_wp2_with fail
      go_roundw
      case rel => exact ⟨_, k + 1, rfl, rfl, by omega, HS2, trivial⟩
      case measure => simp [intOf]; omega
    · have hkk : k = L := by omega
      subst hkk
      have HT : Hid (k ≤ 20 → x = sumL l) := fun h => by rw [HS.out h, HL.out, List.take_length]
      have HN : Hid (Calls Try.prog 8 #[.int .i64 200] wr fun e w' => e = .returned (.tuple #[.pointer (some ⟨wr.heap.size + 1, 0, none⟩), .int .i64 0]) ∧ StoreIs w' (wr.heap.size + 1) wr.heap.size (St.new 200) ∧ Only [] wr w') := new_up 200 (by decide) (by decide) wr
      obtain ⟨p, hp⟩ : ∃ p, p = wr.heap.size + 1 := ⟨_, rfl⟩
      obtain ⟨b, hb⟩ : ∃ b, b = wr.heap.size := ⟨_, rfl⟩
      rw [← hp, ← hb] at HN
      have hpb : w.heap.size ≤ p ∧ w.heap.size ≤ b := by have := HO1.out.size; omega
      clear hp hb HS hk hkL
      go_wp2_with fail
      refine (HN.out).mono ?_
      rintro e w2 ⟨rfl, hs2, ho2⟩
      have HS2 := Lib.hid hs2
      have HO2 : Hid (Only [] w w2) := HO1.out.tr ho2
      have HC2 : Hid (RowS w2 (.slice a k ca) l) := RowS.keep (v := .slice a k ca) ⟨a, ca, by rw [← HL.out], HC1.out⟩ ho2
      clear hs2 ho2 HN HO1 HC1
      by_cases hx3 : 3000 < x
      · go_wp2_with fail
        go_ret
        exact ⟨rfl, HO2.out.below (Nat.le_refl _) (by simp)⟩
      · by_cases hL20 : 20 < (k : Int)
        · go_wp2_with fail
          go_ret
          exact ⟨rfl, HO2.out.below (Nat.le_refl _) (by simp)⟩
        · have HT2 : Hid (k ≤ 20 ∧ sumL l ≤ 3000) := ⟨by omega, by have := HT.out (by omega); omega⟩
          clear HT
          go_wp2_with fail
          refine (open_up HS2.out rfl rfl (scan_new 200 (by decide) (by decide))).mono ?_
          rintro e w3 ⟨s3, j, rb, v3, rfl, hl3, hfu3, ⟨P3, hP3, hT3⟩, hj, hrb, hown3, hne3, ho3⟩
          obtain ⟨va, vc, rfl, hr3⟩ := RowS.of_own hown3
          have HL3 := Lib.hid hl3
          have HN3 : Hid (s3.n = 200) := hT3.n
          have HJ : Hid (w.heap.size ≤ j ∧ ∀ g, rb = some g → w.heap.size ≤ g) := ⟨by have := HO2.out.size; omega, fun g hg => by have := HO2.out.size; have := hrb g hg; omega⟩
          have HO3 : Hid (Only [] w w3) := HO2.out.trans ho3 (by simp; omega)
          clear hr3 hl3 hfu3 hP3 hT3 hj hrb hown3 hne3 ho3 HS2 HC2
          go_wp2_with fail
          refine (fuse_of HL3.out.st _ _ ?_).mono ?_
          · omega
          rintro e w4 ⟨rfl, hs4, ho4⟩
          have hja := HL3.out.jn.away HL3.out.st
          have HI : Hid (SureIn w (w4.alloc (.cells #[] 9)) p b j 200 (.slice (some ⟨w4.heap.size, 0, none⟩) 0 0) []) := SureIn.empty (rb := rb) ⟨hs4, HL3.out.jn.only ho4 (by simp; exact hja.1.1) (by simp; exact fun g hg => (hja.2.1 g hg).1), HL3.out.sd.setFuse _ _ (by omega), HL3.out.up⟩ HN3.out HJ.out.2 (HO3.out.trans ho4 (by simp; exact hpb.1))
          have HJJ : Hid (w.heap.size ≤ j) := HJ.out.1
          clear hs4 ho4 hja HL3 HN3 HJ HO3 HO2 hx3 hL20
          go_upto_block 2 with (fail)
          go_cut [14, 15] (fun u un wc => Hid (SureOut w wc p b 200 u un))
          case first =>
            go_wp2_with fail
            go_loopw [14, 15, 80] (fun u un i wq => ∃ (q : Nat) (ls : List Bs), un = .string ByteArray.empty ∧ i = .int .i64 (q : Int) ∧ q ≤ k ∧ Hid (SureIn w wq p b j 200 u ls) ∧ Hid ((frames ls).length ≤ sumL (l.take q) + 8 * q ∧ ls.length ≤ q)) (fun _ _ i _ => k - (intOf i).toNat)
            case atStart => exact ⟨0, [], rfl, rfl, Nat.zero_le _, HI, Lib.hid ⟨by simp [frames_nil], Nat.le_refl _⟩⟩
            case round =>
              obtain ⟨q, ls, rfl, rfl, hq, HI2, HF2⟩ := hrel
              by_cases hqk : q < k
              · obtain ⟨y, hy⟩ : ∃ y, l[q]? = some y := ⟨_, List.getElem?_eq_getElem (by have := HL.out; omega)⟩
                have hmem := List.mem_of_getElem? hy
                have hc' := row_keep HC.out (by obtain ⟨_, _, _, _, _, _, _, ho, _⟩ := HI2.out; exact ho)
                obtain ⟨ad, rfl, hcy⟩ := hc' q y hy
                unfold strV at hcy
                have hst := sumL_take l q y hy
                have hle := sumL_take_le l (q + 1)
                have HZ := Lib.hid HI2.out.nz
                have HST := Lib.hid (sure_step HI2.out hpb HJJ.out y (by intro h4; have := HF2.out.1; have := HT2.out; omega))
                have HFN : Hid ((frames (ls ++ [y])).length ≤ sumL (l.take (q + 1)) + 8 * (q + 1)) := by
                  show _ ≤ _
                  rw [frames_snoc, List.length_append, frameL_length]
                  have := HF2.out.1
                  omega
                have HFO : Hid ((frames ls).length ≤ sumL (l.take (q + 1)) + 8 * (q + 1)) := by
                  show _ ≤ _
                  have := HF2.out.1
                  omega
                have HFT : Hid ((frames (ls ++ [y])).length ≤ 3160 ∧ (frames ls).length ≤ 3160 ∧ ls.length ≤ q) := by
                  have h1 := HFN.out
                  have h2 := HFO.out
                  have h3 := HT2.out
                  exact ⟨by omega, by omega, HF2.out.2⟩
                have hc0 : (0 : Int) ≤ (q : Int) := by omega
                have hc1 : ((q : Int) < (k : Int)) := by omega
                have hwr : IntKind.i64.wrap ((q : Int) + 1) = (q : Int) + 1 := IntWalk.i64_in _ (by omega)
                have HY := Lib.hid hy
                clear hy hmem hc' hst hle
                go_wp2_with fail
                refine (HST.out).mono ?_
                rintro e w5 (⟨c, rfl, hc5, hc6, hi5⟩ | ⟨rfl, rb5, s5, hl5, hn5, hu5, hne5, hrb5, ho5⟩ | ⟨rfl, hy5, s5, m5, t5, hs5, hn5, hsc5, hm5, hu5, ho5⟩)
                · have HI5 := Lib.hid hi5
                  have b1 : (c == 0) = false := beq_eq_false_iff_ne.mpr hc5
                  have b2 : (c == 16) = false := beq_eq_false_iff_ne.mpr hc6
                  clear hi5
                  go_wp2_with fail
                  go_roundw
                  case rel => exact ⟨q + 1, ls, rfl, rfl, by omega, HI5, Lib.hid ⟨HFO.out, by have := HF2.out.2; omega⟩⟩
                  case measure => simp [intOf]; omega
                · obtain ⟨ad', had, hcy5⟩ := row_keep HC.out ho5 q y HY.out
                  cases had
                  unfold strV at hcy5
                  obtain ⟨i0, hi, hz0, hz1, hz2⟩ := info_parts string_info
                  have HL5 := Lib.hid hl5
                  have HN5 := Lib.hid hn5
                  have HU5 := Lib.hid hu5
                  have HE5 := Lib.hid hne5
                  have HR5 := Lib.hid hrb5
                  have HO5 := Lib.hid ho5
                  clear hl5 hn5 hu5 hne5 hrb5 ho5
                  go_wp2_with (at_builtin; refine wpList_append_own_at _ rfl _ _ 32 rfl w.heap.size 9 i0 (.string ByteArray.empty) 1 16 Try.underlying32 hi hz0 hz1 hz2 rfl (by decide) _ _ _ rfl (HU5.out.alloc _) ⟨w5.heap.size, 0, none⟩ 1 1 [strV y] rfl rfl ?c1 ?c2 ?c3 ?c4 ?c5 ?_)
                  case c1 =>
                    intro m u hm
                    match m, hm with
                    | 0, hm => simp at hm; subst hm; simp [Addr.add, strV]
                  case c2 => intro u hu; simp at hu; subst hu; rfl
                  case c3 => have := HFT.out; have := HT2.out; unfold maxLen; omega
                  case c4 => have := HFT.out; have := HT2.out; omega
                  case c5 => have := HO5.out.size; simp; omega
                  intro v' w6 hown6 hgrow hnil hat
                  have hi6 : SureIn w w6 p b j 200 v' (ls ++ [y]) := SureIn.grown HL5.out HN5.out HU5.out HE5.out HR5.out HO5.out _ hown6 hgrow hat (fun h => hnil h)
                  have HI6 := Lib.hid hi6
                  clear hown6 hgrow hat hnil hi6 HL5 HN5 HU5 HE5 HR5 HO5
                  go_wp2_with fail
                  go_roundw
                  case rel => exact ⟨q + 1, ls ++ [y], rfl, rfl, by omega, HI6, Lib.hid ⟨HFN.out, by have := HF2.out.2; rw [List.length_append]; simp; omega⟩⟩
                  case measure => simp [intOf]; omega
                · obtain ⟨ad', had, hcy5⟩ := row_keep HC.out ho5 q y HY.out
                  cases had
                  unfold strV at hcy5
                  have HOU := Lib.hid (SureOut.torn hs5 hn5 hsc5 hu5 hm5 hy5 (by have := HFT.out; omega) (by have := HFT.out; omega) (by have := HFT.out; have := HT2.out; omega) ho5 HZ.out)
                  clear hs5 hn5 hsc5 hu5 hm5 hy5 ho5
                  go_wp2_with fail
                  go_meet
                  case rel => exact HOU
              · have hqq : q = k := by omega
                subst hqq
                have h3 := HT2.out
                have h4 := sumL_take_le l q
                have HO := Lib.hid (HI2.out.out (by have := HF2.out.1; omega) (by have := HF2.out.2; omega))
                clear h3 h4
                go_wp2_with fail
                go_meet
                case rel => exact HO
          case rest =>
            obtain ⟨s5, ls, m, t5, y, hs5, hn5, hsc5, hu5, rfl, hm5, hfr5, hls5, ho5, hz5⟩ := hcut.out
            obtain ⟨rfl, _⟩ | ⟨gu, cu, rfl, hgu, hcu⟩ := own_cells hu5
            · exact absurd rfl hz5
            have HS5 := Lib.hid hs5
            have HN5 := Lib.hid hn5
            have HSC5 := Lib.hid hsc5
            have HU5 := Lib.hid hu5
            have HM5 := Lib.hid hm5
            have HFR := Lib.hid hfr5
            have HLS := Lib.hid hls5
            have HO5 := Lib.hid ho5
            obtain ⟨K, hK⟩ : ∃ K, K = ls.length := ⟨_, rfl⟩
            rw [← hK] at HU5 HLS ⊢
            have HK := Lib.hid hK
            unfold strV
            clear hs5 hn5 hsc5 hu5 hm5 hfr5 hls5 ho5 hz5 hcut hcu hgu hK HI
            go_wp2_with fail
            refine (up_of HS5.out).mono ?_
            rintro e w6 ⟨rfl, hs6, ho6⟩
            have hus := own_store HU5.out HS5.out
            have HS6 := Lib.hid hs6
            have HU6 := Lib.hid (own_keep HU5.out ho6 (by simp; exact fun g hg => (hus g hg).1))
            have HO6 : Hid (Only [] w w6) := HO5.out.trans ho6 (by simp; exact hpb.1)
            clear hs6 ho6 hus HS5 HU5 HO5
            go_wp2_with fail
            refine (open_up HS6.out rfl rfl (l := m) (t := t5) (by show IsScan (partB s5 0 s5.n) m t5; rw [HN5.out]; exact HSC5.out)).mono ?_
            rintro e w7 ⟨s7, j7, rb7, v7, rfl, hl7, hfu7, ⟨P7, hP7, hT7⟩, hj7, hrb7, hown7, hne7, ho7⟩
            obtain ⟨na, nc, rfl, hr7⟩ := RowS.of_own hown7
            clear hr7
            have hus := own_store HU6.out HS6.out
            have HL7 := Lib.hid hl7
            have HF7 := Lib.hid hfu7
            have HN7 : Hid (s7.n = 200) := hT7.n.trans HN5.out
            have HJ7 : Hid (w.heap.size ≤ j7 ∧ ∀ g, rb7 = some g → w.heap.size ≤ g) := ⟨by have := HO6.out.size; omega, fun g hg => by have := HO6.out.size; have := hrb7 g hg; omega⟩
            have HE7 := Lib.hid hne7
            have HU7 := Lib.hid (own_keep HU6.out ho7 (by simp; exact fun g hg => hus g hg))
            have HO7 : Hid (Only [] w w7) := HO6.out.trans ho7 (by simp; exact hpb)
            obtain ⟨M, hM⟩ : ∃ M, M = m.length := ⟨_, rfl⟩
            rw [← hM] at hown7 HE7 ⊢
            have HM := Lib.hid hM
            have HW7 := Lib.hid hown7
            have HG7 : Hid (∀ x, (Value.slice na M nc).ownBlock = some x → w.heap.size ≤ x) := fun x hx => by have := HO6.out.size; have := (hown7.lt x hx).1; omega
            clear hl7 hfu7 hP7 hT7 hj7 hrb7 hown7 hne7 ho7 hus hM HS6 HU6 HO6
            obtain ⟨i0, hi, hz0, hz1, hz2⟩ := info_parts string_info
            go_wp2_with (at_builtin; refine wpList_append_own_at _ rfl _ _ 32 rfl w7.heap.size 9 i0 (.string ByteArray.empty) 1 16 Try.underlying32 hi hz0 hz1 hz2 rfl (by decide) _ 0 [] rfl (own_empty w7 _ _ (Nat.le_refl _)) ⟨gu, 0, none⟩ K cu (ls.map strV) rfl ?c0 ?c1 ?c2 ?c3 ?c4 ?c5 ?_)
            case c0 => rw [List.length_map, HK.out, Nat.mul_one]
            case c1 =>
              intro jj uu hu
              exact (own_keep HU7.out ((Only.refl [] w7).alloc (.cells #[] 9)) (by simp)).cells (g := gu) rfl jj uu hu
            case c2 => intro u hu; rw [List.mem_map] at hu; obtain ⟨_, _, rfl⟩ := hu; rfl
            case c3 => have := HLS.out; unfold maxLen; omega
            case c4 => have := HLS.out; omega
            case c5 => simp
            intro va8 w8 hown8 hgrow8 hnil8 hat8
            have hO8 : Only [] w7 w8 := grown_new hgrow8 (fun g hg => by cases hg; exact Nat.le_refl _)
            have HV8 := Lib.hid hown8
            have HO8 := Lib.hid hO8
            clear hown8 hgrow8 hnil8 hat8 hO8
            go_wp2_with (at_builtin; refine wpList_append_own_at _ rfl _ _ 32 rfl w7.heap.size 9 i0 (.string ByteArray.empty) 1 16 Try.underlying32 hi hz0 hz1 hz2 rfl (by decide) _ _ _ rfl (HV8.out.alloc _) ⟨w8.heap.size, 0, none⟩ 1 1 [strV y] rfl rfl ?c1 ?c2 ?c3 ?c4 ?c5 ?_)
            case c1 =>
              intro m u hm
              match m, hm with
              | 0, hm => simp at hm; subst hm; simp [Addr.add, strV]
            case c2 => intro u hu; simp at hu; subst hu; rfl
            case c3 => have := HLS.out; unfold maxLen; omega
            case c4 => have := HLS.out; omega
            case c5 => have := HO8.out.size; simp; omega
            intro vb9 w9 hown9 hgrow9 hnil9 hat9
            have hO9 : Only [] w7 w9 := HO8.out.trans (T := va8.ownBlock.toList) (((Only.refl _ w8).alloc _).grown hgrow9 (fun k hk => Or.inl (by rw [hk]; simp))) (fun x hx => Or.inr (HV8.out.lt x (by simpa using hx)).1)
            have HL9 : Hid (Live w9 p b j7 rb7 s7 0 s5.up.n m) := HL7.out.only hO9 (by simp) (by simp) (by simp) (by simp)
            have HU9 := Lib.hid (own_keep HU7.out hO9 (by simp))
            have HW9 := Lib.hid (own_keep HW7.out hO9 (by simp))
            have HV9 : Hid (RowS w9 vb9 (ls ++ [y])) := RowS.of_own (base := w7.heap.size) (by rw [List.length_append, List.map_append, ← HK.out]; simpa using hown9)
            have HO9 : Hid (Only [] w w9) := HO7.out.tr hO9
            have HLM : Hid (m.length ≤ 1000000) := by have := frames_count m; have := HFR.out; show _ ≤ _; omega
            clear hown9 hgrow9 hnil9 hat9 hO9 HV8 HO8 HL7 HU7 HW7 HO7
            go_upto_region 32 with (fail)
            go_cut [138] (fun c wx => c = .bool false ∧ Hid (Only [] w9 wx))
            case first =>
              rcases HM5.out with h | ⟨hy, h⟩
              · have HH := Lib.hid h
                clear h
                go_wp2_with fail
                refine (Same_eq (l := m) (RowS.of_n HW9.out HM.out) (by rw [HH.out]; exact RowS.of_n HU9.out HK.out) HLM.out).mono ?_
                rintro e w10 ⟨rfl, ho10⟩
                have HO10 := Lib.hid ho10
                clear ho10
                go_wp2_with fail
                go_meet
                exact ⟨rfl, HO10⟩
              · have HH := Lib.hid h
                have hyb := bytes_ne hy
                clear h hy
                go_wp2_with fail
                refine (Same_ne (l := m) (m := ls) (RowS.of_n HW9.out HM.out) (RowS.of_n HU9.out HK.out) HLM.out (by rw [HH.out]; simp)).mono ?_
                rintro e w10 ⟨rfl, ho10⟩
                have HO10 := Lib.hid ho10
                have HV10 : Hid (RowS w10 vb9 m) := by show RowS _ _ _; rw [HH.out]; exact HV9.out.keep ho10
                have HW10 := Lib.hid (own_keep HW9.out ho10 (by simp))
                clear ho10
                go_wp2_with fail
                refine (Same_eq (l := m) (RowS.of_n HW10.out HM.out) HV10.out HLM.out).mono ?_
                rintro e w11 ⟨rfl, ho11⟩
                have HO11 := Lib.hid (HO10.out.tr ho11)
                clear ho11
                go_wp2_with fail
                go_meet
                exact ⟨rfl, HO11⟩
            case rest =>
              obtain ⟨rfl, hox⟩ := hcut
              have HLx : Hid (Live wc p b j7 rb7 s7 0 s5.up.n m) := HL9.out.only hox.out (by simp) (by simp) (by simp) (by simp)
              have HWx := Lib.hid (own_keep HW9.out hox.out (by simp))
              have HOx : Hid (Only [] w wc) := HO9.out.tr hox.out
              clear hox HL9 HW9 HO9 HU9 HV9
              go_wp2_with fail
              refine (app_sure HLx.out HF7.out _ (by decide) (by decide) (by have := HFR.out; have e : s5.up.n = 200 := HN5.out; rw [e]; show _ + (7 + 8) ≤ _; omega)).mono ?_
              rintro e w10 ⟨rfl, s10, P10, rb10, hP10, hT10, ho10, hrb10, hl10, hfu10⟩
              have hma := own_away HWx.out HLx.out.st HLx.out.jn
              have HW10 := Lib.hid (own_keep HWx.out ho10 (by simp; exact fun g hg => ⟨(hma g hg).1, (hma g hg).2.1, (hma g hg).2.2, HE7.out g hg⟩))
              have HO10 : Hid (Only [] w w10) := only_own HOx.out ho10 hpb HJ7.out.1 HJ7.out.2
              have HN10 : Hid (s10.n = 200) := hT10.n.trans HN7.out
              have HL10 : Hid (Live w10 p b j7 rb10 s10 0 s5.up.n (m ++ [goesOn])) := hl10
              have HF10 := Lib.hid hfu10
              clear hP10 hT10 ho10 hrb10 hl10 hfu10 hma HLx HWx HOx
              go_wp2_with fail
              refine (open_up HL10.out.st HL10.out.up HF10.out (l := m ++ [goesOn]) (t := zs (32 * s5.up.n - (frames (m ++ [goesOn])).length)) (by have h := HL10.out.sd.scan; rw [HN10.out]; have e : s5.up.n = 200 := HN5.out; rw [e] at h ⊢; exact h)).mono ?_
              rintro e w11 ⟨s11, j11, rb11, v11, rfl, hl11, hfu11, ⟨P11, hP11, hT11⟩, hj11, hrb11, hown11, hne11, ho11⟩
              obtain ⟨ra, rc, rfl, hr11⟩ := RowS.of_own hown11
              clear hr11
              have hma := own_store HW10.out HL10.out.st
              have hlt := HW10.out.lt
              have HW11 := Lib.hid (own_mono (own_keep HW10.out ho11 (by simp; exact fun g hg => hma g hg)) (Nat.zero_le _))
              have HO11 : Hid (Only [] w w11) := HO10.out.trans ho11 (by simp; exact hpb)
              obtain ⟨R, hR⟩ : ∃ R, R = (m ++ [goesOn]).length := ⟨_, rfl⟩
              rw [← hR] at hown11 ⊢
              have HRR := Lib.hid hR
              have HD : Hid (∀ x, (Value.slice ra R rc).ownBlock = some x → (Value.slice na M nc).ownBlock = some x → False) := fun x hx hy => by have h1 := (hown11.lt x hx).1; have h2 := (hlt x hy).2; omega
              have HR11 := Lib.hid hown11
              have hml : Hid (M ≤ 3160) := by have := frames_count m; have := HFR.out; have := HM.out; show _ ≤ _; omega
              clear hl11 hfu11 hP11 hT11 hj11 hrb11 hown11 hne11 ho11 hma hlt hR HL10 HW10 HO10
              go_wp2_with (at_builtin; refine append_want _ rfl _ _ 32 rfl 0 9 i0 (.string ByteArray.empty) 1 16 Try.underlying32 hi hz0 hz1 hz2 rfl (by decide) _ _ _ rfl (HW11.out.alloc _) ⟨w11.heap.size, 0, none⟩ 1 1 [strV goesOn] rfl rfl ?c1 ?c2 ?c3 ?c4 ?c5 ?_)
              case c1 =>
                intro m u hm
                match m, hm with
                | 0, hm => simp at hm; subst hm; simp [Addr.add, strV, goesOn, mkS]
              case c2 => intro u hu; simp at hu; subst hu; rfl
              case c3 => have := hml.out; unfold maxLen; omega
              case c4 => have := hml.out; omega
              case c5 => exact Nat.zero_le _
              intro vd w12 hown12 hgrow12 hat12
              have hO12 : Only (Value.slice na M nc).ownBlock.toList w11 w12 := ((Only.refl _ w11).alloc _).grown hgrow12 (fun k hk => Or.inl (by rw [hk]; simp))
              have HR12 := Lib.hid (own_keep HR11.out hO12 (fun g hg hx => HD.out g hg (by simpa using hx)))
              have HV12 : Hid (RowS w12 vd (m ++ [goesOn])) := RowS.of_own (base := 0) (by rw [List.length_append, List.map_append, ← HM.out]; simpa using hown12)
              have HO12 : Hid (Only [] w w12) := HO11.out.trans hO12 (fun x hx => Or.inr (HG7.out x (by simpa using hx)))
              clear hown12 hgrow12 hat12 hO12 HW11 HR11
              go_wp2_with fail
              refine (Same_eq (l := m ++ [goesOn]) (RowS.of_n HR12.out HRR.out) HV12.out (by have := HLM.out; have := hml.out; have := HM.out; rw [List.length_append]; simp; omega)).mono ?_
              rintro e w13 ⟨rfl, ho13⟩
              have HO13 := Lib.hid (HO12.out.tr ho13)
              clear ho13
              go_wp2_with fail
              go_ret
              exact ⟨rfl, HO13.out.below (Nat.le_refl _) (by simp)⟩
end Go.Proofs.Ytngcdkbnljoodaa
