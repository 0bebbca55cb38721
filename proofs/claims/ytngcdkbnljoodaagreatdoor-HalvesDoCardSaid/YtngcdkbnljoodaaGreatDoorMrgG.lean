/- Halves' laws: a row of acts, large, a row that is appended. No conditions beyond those typed. HalvesSure: what holds within its loop. No conditions beyond those typed. HalvesSure's walk. No conditions beyond the variables that strconv reads, and the bounds typed. -/
import Derived.Test.YtngcdkbnljoodaaGreatDoorMrgE
import Derived.Deep.Fields
import Derived.Laws.AppendOwnNone
import Derived.Deep.AppendLies
namespace Go.Proofs.YtngcdkbnljoodaaGreatDoor
set_option linter.unusedVariables false
set_option linter.unusedSimpArgs false
open Go.RowKit Go.Proofs.YtngcdkbnljoodaaGreatDoorW.PrintWords Go.ChangeShapes Go.WideShapes Go.Deep

/-- An act's values: its row's value, its row. -/
structure ActH where
  k : Int
  n : Int
  m : Int
  t : Bs
  v : Value
  l : List Bs
def RowH (w : World) (v : Value) (l : List ActH) : Prop := ∃ a cap, v = .slice a l.length cap ∧ ∀ i x, l[i]? = some x → ∃ p : Addr, a = some p ∧ w.cell? (p.add (i * 5)) = some (.int .i64 x.k) ∧ w.cell? ⟨(p.add (i * 5)).block, (p.add (i * 5)).off + 1, none⟩ = some (.int .i64 x.n) ∧ w.cell? ⟨(p.add (i * 5)).block, (p.add (i * 5)).off + 2, none⟩ = some (.int .i64 x.m) ∧ w.cell? ⟨(p.add (i * 5)).block, (p.add (i * 5)).off + 3, none⟩ = some (strV x.t) ∧ w.cell? ⟨(p.add (i * 5)).block, (p.add (i * 5)).off + 4, none⟩ = some x.v
structure ActOk (w : World) (x : ActH) : Prop where
  t : x.t.length ≤ 140737488351232
  n : x.n ≤ 9223372036854775807
  row : RowS w x.v x.l
  l : x.l.length * 16 ≤ 140737488351232
  z : x.v = .slice none 0 0 ∨ ∃ ad n c, x.v = .slice (some ad) n c
  x : ∀ y ∈ x.l, y.length ≤ 140737488351232
theorem act_cells : Tryz.prog.cellsOf 39 = 5 := by kernel_rfl
theorem act_bytes : Tryz.prog.bytesOf 39 = 64 := by kernel_rfl
theorem open_five {H : Type} {enc : TypeId × Value → H} {P : Program} {w : World} {base : Nat} {spare : Nat → Bool} {held : Bool} {t : TypeId} {f0 f1 f2 f3 f4 : Field} {fuel : Nat} {cs : List Value} {x : DataW H × List MemPlace}
    (hs : P.underlying t = some (.struct #[f0, f1, f2, f3, f4])) (hone : oneCellFields P #[f0, f1, f2, f3, f4] = true) (hC : P.cellsOf t = 5) (h : DataW.trod enc P w base spare held fuel t cs = some x) :
    ∃ (c0 c1 c2 c3 c4 : Value) (y0 y1 y2 y3 y4 : DataW H × List MemPlace) (n : Nat), cs = [c0, c1, c2, c3, c4] ∧ x.1 = .agg [y0.1, y1.1, y2.1, y3.1, y4.1] ∧
      DataW.trod enc P w base spare held n f0.type [c0] = some y0 ∧ DataW.trod enc P w base spare held n f1.type [c1] = some y1 ∧ DataW.trod enc P w base spare held n f2.type [c2] = some y2 ∧ DataW.trod enc P w base spare held n f3.type [c3] = some y3 ∧ DataW.trod enc P w base spare held n f4.type [c4] = some y4 := by
  obtain ⟨xs, n, _, hx, hl, hlen, hg⟩ := DataW.trod_struct hs h
  rw [hC] at hl
  match cs, hl with
  | [c0, c1, c2, c3, c4], _ =>
    obtain ⟨o0, k0⟩ := hone_of hone 0 f0 rfl
    obtain ⟨o1, k1⟩ := hone_of hone 1 f1 rfl
    obtain ⟨o2, k2⟩ := hone_of hone 2 f2 rfl
    obtain ⟨o3, k3⟩ := hone_of hone 3 f3 rfl
    obtain ⟨o4, k4⟩ := hone_of hone 4 f4 rfl
    match xs, hlen with
    | [y0, y1, y2, y3, y4], _ =>
      refine ⟨c0, c1, c2, c3, c4, y0, y1, y2, y3, y4, n, rfl, ?_, by simpa [o0, k0] using hg 0 f0 rfl, by simpa [o1, k1] using hg 1 f1 rfl, by simpa [o2, k2] using hg 2 f2 rfl, by simpa [o3, k3] using hg 3 f3 rfl, by simpa [o4, k4] using hg 4 f4 rfl⟩
      rw [hx]
      rfl
theorem i64_wf {n : Int} (h : (Lit.int .i64 n).wf = true) : n ≤ 9223372036854775807 := by
  simp [Lit.wf, IntKind.min, IntKind.max, IntKind.signed, IntKind.bits] at h
  omega
theorem weights_all_mem {H : Type} (P : Program) (e : TypeId) : ∀ (ds : List (DataW H)) (d : DataW H), d ∈ ds → ∀ n ∈ d.weights P e, n ∈ DataW.weightsAll P e ds
  | [], _, h, _, _ => by cases h
  | a :: ds, d, h, n, hn => by
    show n ∈ DataW.weights P e a ++ DataW.weightsAll P e ds
    rcases List.mem_cons.1 h with rfl | h
    · exact List.mem_append_left _ hn
    · exact List.mem_append_right _ (weights_all_mem P e ds d h n hn)
def actTs : List TypeId := [3, 3, 3, 9, 37]
theorem act_sized {H : Type} {ts : List TypeId} {ds : List (DataW H)} {j : Nat} {es sp ps : List (DataW H)} (hsz : (DataW.weightsEach Tryz.prog ts ds).all (· ≤ reachBytes) = true) (ht : ts[j]? = some 22) (hd : ds[j]? = some (.slice es sp)) (he : .agg ps ∈ es) : (DataW.weightsEach Tryz.prog actTs ps).all (· ≤ reachBytes) = true := by
  rw [List.all_eq_true]
  intro n hn
  refine List.all_eq_true.1 hsz n (DataW.weights_mem_each ht hd n ?_)
  rw [DataW.weights, Tryz.underlying22]
  refine List.mem_cons_of_mem _ (List.mem_append_left _ (weights_all_mem _ _ _ _ he n ?_))
  rw [DataW.weights, Tryz.underlying39]
  exact hn
set_option maxRecDepth 100000 in
theorem row_acts17 {H : Type} {enc : TypeId × Value → H} {W : World} {ts : List TypeId} {ds : List (DataW H)} {j : Nat} {d : DataW H} {p : List MemPlace} {a : Option Addr} {len cap : Nat}
    (hsz : (DataW.weightsEach Tryz.prog ts ds).all (· ≤ reachBytes) = true) (ht : ts[j]? = some 22) (hd : ds[j]? = some d) (h : DataW.Trod enc Tryz.prog W 0 (fun _ => true) true 22 (.slice a len cap) d p) :
    ∃ l : List ActH, RowH W (.slice a len cap) l ∧ l.length ≤ 140737488351232 ∧ ∀ x ∈ l, ActOk W x := by
  obtain ⟨fuel, hf⟩ := h
  rcases open_slice Tryz.underlying22 hf with ⟨hcs, hx⟩ | ⟨x, l, c, m, n, D, Pl, hcs, _, hl, hm, hmm, hx, hall⟩
  · simp [Value.cells] at hcs
    obtain ⟨rfl, rfl, rfl⟩ := hcs
    exact ⟨[], ⟨none, 0, rfl, fun k x h => by simp at h⟩, by simp, by simp⟩
  · simp [Value.cells] at hcs
    obtain ⟨rfl, rfl, rfl⟩ := hcs
    simp only [if_true] at hmm
    subst hmm
    simp only [Prod.mk.injEq] at hx
    obtain ⟨rfl, rfl⟩ := hx
    have each : ∀ i, i < len → ∃ v : ActH, (W.cell? (x.add (i * 5)) = some (.int .i64 v.k) ∧ W.cell? ⟨(x.add (i * 5)).block, (x.add (i * 5)).off + 1, none⟩ = some (.int .i64 v.n) ∧ W.cell? ⟨(x.add (i * 5)).block, (x.add (i * 5)).off + 2, none⟩ = some (.int .i64 v.m) ∧ W.cell? ⟨(x.add (i * 5)).block, (x.add (i * 5)).off + 3, none⟩ = some (strV v.t) ∧ W.cell? ⟨(x.add (i * 5)).block, (x.add (i * 5)).off + 4, none⟩ = some v.v) ∧ ActOk W v := fun i hi => by
      obtain ⟨cs', h1, h2⟩ := hall i (by omega)
      rw [act_cells] at h1
      obtain ⟨_, _, hcell⟩ := World.cells?_some h1
      obtain ⟨c0, c1, c2, c3, c4, y0, y1, y2, y3, y4, n', rfl, hagg, t0, t1, t2, t3, t4⟩ := open_five Tryz.underlying39 (by kernel_rfl) act_cells h2
      have hz := act_sized (ps := [y0.1, y1.1, y2.1, y3.1, y4.1]) hsz ht hd (by rw [← hagg]; exact List.mem_map.2 ⟨i, List.mem_range.2 hi, rfl⟩)
      obtain ⟨z0, e0, _, _⟩ := DataW.trod_int Tryz.underlying3 t0
      obtain ⟨z1, e1, _, hw1⟩ := DataW.trod_int Tryz.underlying3 t1
      obtain ⟨z2, e2, _, _⟩ := DataW.trod_int Tryz.underlying3 t2
      obtain ⟨z3, e3, f3, hw3⟩ := DataW.trod_string Tryz.underlying9 t3
      have hlit : y3.1 = .lit (.string z3.data.toList) := by rw [f3]
      have h3 := sized_string (j := 3) (t := 9) hz rfl (by show some y3.1 = _; rw [hlit])
      simp only [List.cons.injEq, and_true] at e0 e1 e2 e3
      subst e0 e1 e2 e3
      obtain ⟨ar, lr, cr, rfl, hzz⟩ : ∃ ar lr cr, c4 = .slice ar lr cr ∧ ((Value.slice ar lr cr) = .slice none 0 0 ∨ ∃ ad n c, (Value.slice ar lr cr) = .slice (some ad) n c) := by
        rcases open_slice Tryz.underlying37 t4 with ⟨hcs, _⟩ | ⟨x4, l4, c4', _, _, _, _, hcs, _⟩
        · simp at hcs
          exact ⟨_, _, _, hcs, Or.inl rfl⟩
        · simp at hcs
          exact ⟨_, _, _, hcs, Or.inr ⟨_, _, _, rfl⟩⟩
      obtain ⟨ls, g1, g2, g3⟩ := row_strs (j := 4) hz rfl rfl (⟨n', t4⟩ : DataW.Trod enc Tryz.prog W 0 (fun _ => true) true 37 (.slice ar lr cr) y4.1 y4.2)
      refine ⟨⟨z0, z1, z2, z3.data.toList, .slice ar lr cr, ls⟩, ⟨?_, ?_, ?_, ?_, ?_⟩, h3, i64_wf hw1, g1, g2, hzz, g3⟩
      · exact hcell 0 (by decide)
      · exact hcell 1 (by decide)
      · exact hcell 2 (by decide)
      · have := hcell 3 (by decide)
        rw [strV, mkS_list]
        exact this
      · exact hcell 4 (by decide)
    have : Inhabited ActH := ⟨⟨0, 0, 0, [], .nilIface, []⟩⟩
    obtain ⟨V, hV⟩ := choose_lt each
    refine ⟨(List.range len).map V, ⟨some x, _, by rw [List.length_map, List.length_range], fun k y hk => ⟨x, rfl, ?_⟩⟩, ?_, ?_⟩
    · rw [List.getElem?_map, Option.map_eq_some_iff] at hk
      obtain ⟨i, hi, rfl⟩ := hk
      obtain ⟨hil, rfl⟩ := List.getElem?_eq_some_iff.1 hi
      rw [List.getElem_range]
      exact (hV k (by rw [List.length_range] at hil; exact hil)).1
    · have h1 := sized_slice hsz ht hd Tryz.underlying22
      rw [act_bytes] at h1
      simp only [List.length_map, List.length_range, reachBytes] at h1
      rw [List.length_map, List.length_range]
      omega
    · intro y hy
      obtain ⟨i, hi, rfl⟩ := List.mem_map.1 hy
      exact (hV i (List.mem_range.1 hi)).2
theorem wide_sum : ∀ (l : List Bs), wideL l = false → sumL l ≤ l.length * 398
  | [], _ => by simp [sumL]
  | x :: t, h => by
    have h1 : x.length ≤ 398 ∧ wideL t = false := by
      unfold wideL at h ⊢
      simp only [List.any_cons, Bool.or_eq_false_iff, decide_eq_false_iff_not] at h
      exact ⟨by omega, h.2⟩
    have h2 := wide_sum t h1.2
    show x.length + sumL t ≤ (t.length + 1) * 398
    omega
def LargePost (l : List Bs) (w : World) (e : Ending) (w' : World) : Prop := ∃ b : Bool, e = .returned (.bool b) ∧ Only [] w w' ∧ (b = false → wideL l = true ∨ l.length ≤ 200)
set_option maxHeartbeats 2000000 in
theorem large_of (x : ActH) (T : ByteArray) (hT : T.size = x.t.length) (w : World) (h : ActOk w x) : Calls Tryz.prog 9 #[.agg #[.int .i64 x.k, .int .i64 x.n, .int .i64 x.m, .string T, x.v]] w (LargePost x.l w) := by
  obtain ⟨k, n, m, t, v, l⟩ := x
  obtain ⟨ht, _, hr, hl, _, hx⟩ := h
  dsimp only at hT ht hr hl hx ⊢
  obtain ⟨a, ca, rfl, hc⟩ := hr
  obtain ⟨M, hM⟩ : ∃ M, M = l.length := ⟨_, rfl⟩
  rw [← hM] at hl
  have HM := Lib.hid hM
  have HX := Lib.hid hx
  rw [← hM]
  obtain ⟨W, hW⟩ : ∃ W, W = w.alloc (.cells #[.int .i64 k, .int .i64 n, .int .i64 m, .string T, .slice a M ca] 39) := ⟨_, rfl⟩
  have hO : Only [] w W := by rw [hW]; exact (Only.refl [] w).alloc _
  have HC : Hid (∀ q y, l[q]? = some y → ∃ p, a = some p ∧ W.cell? (p.add q) = some (strV y)) := row_keep hc hO
  have hb : W.heap[w.heap.size]? = some (.cells #[.int .i64 k, .int .i64 n, .int .i64 m, .string T, .slice a M ca] 39 (0, 0)) := by rw [hW]; exact blk_new w _
  have HO := Lib.hid hO
  have HTL : Hid (T.size = t.length) := hT
  have HTB : Hid (T.size ≤ 140737488351232) := by show _ ≤ _; omega
  have c3 : W.cell? ⟨w.heap.size, 3, none⟩ = some (.string T) := blk_cell hb 3
  have c4 : W.cell? ⟨w.heap.size, 4, none⟩ = some (.slice a M ca) := blk_cell hb 4
  rw [hM] at hW
  clear hM hx hc hO hb hT
  go_enter Tryz.func9, Tryz.ntmps9
  go_upto_region 1 with (fail)
  rw [← HM.out] at hW
  rw [← hW]
  clear hW
  go_wp2_with fail
  go_loopw [3, 12] (fun nv iv wr => ∃ (z : Int) (q : Nat), nv = .int .i64 z ∧ iv = .int .i64 (q : Int) ∧ q ≤ M ∧ Hid (wideL (l.take q) = false → z = T.size + sumL (l.take q) + 10 * q) ∧ wr = W) (fun _ iv _ => M - (intOf iv).toNat)
  case atStart => exact ⟨_, 0, rfl, rfl, Nat.zero_le _, Lib.hid (fun _ => by simp [sumL]), rfl⟩
  case round =>
    obtain ⟨z, q, rfl, rfl, hq, HS, rfl⟩ := hrel
    by_cases hqM : q < M
    · obtain ⟨y, hy⟩ : ∃ y, l[q]? = some y := ⟨_, List.getElem?_eq_getElem (by have := HM.out; omega)⟩
      obtain ⟨ad, rfl, hcy⟩ := HC.out q y hy
      unfold strV at hcy
      have hxy := HX.out y (List.mem_of_getElem? hy)
      have hmk : (mkS y).size = y.length := size_mkS y
      have HS2 : Hid (wideL (l.take (q + 1)) = false → wrap64 (z + ((y.length : Int) + 10)) = T.size + sumL (l.take (q + 1)) + 10 * ((q + 1 : Nat) : Int)) := fun hw => by
        have h1 := wideL_take hy
        rw [hw] at h1
        have h2 : wideL (l.take q) = false := by cases e : wideL (l.take q); rfl; rw [e] at h1; simp at h1
        have h3 := wide_sum _ h2
        have h4 : (l.take q).length ≤ q := by rw [List.length_take]; omega
        have h5 : sumL (l.take q) ≤ q * 398 := Nat.le_trans h3 (Nat.mul_le_mul_right _ h4)
        have h6 := HTB.out
        rw [HS.out h2, sumL_take l q y hy, IntWalk.wrap64_in _ (by omega)]
        omega
      have hc0 : (0 : Int) ≤ (q : Int) := by omega
      have hc1 : ((q : Int) < (M : Int)) := by omega
      have hwr : IntKind.i64.wrap ((q : Int) + 1) = (q : Int) + 1 := IntWalk.i64_in _ (by omega)
      have hw10 : IntKind.i64.wrap ((y.length : Int) + 10) = (y.length : Int) + 10 := IntWalk.i64_in _ (by omega)
      clear hy hxy
      go_wp2_with fail
      go_roundw
      case rel => exact ⟨_, q + 1, rfl, rfl, by omega, HS2, trivial⟩
      case measure => simp [intOf]; omega
    · have hkk : M = q := by omega
      subst hkk
      have HT : Hid (wideL l = false → z = T.size + sumL l + 10 * (M : Int)) := fun h => by rw [HS.out (by rw [HM.out, List.take_length]; exact h), HM.out, List.take_length]
      clear HS hq hqM
      by_cases hz : 2000 < z
      · go_wp2_with fail
        go_ret
        exact ⟨true, rfl, HO.out, fun h => by cases h⟩
      · go_wp2_with fail
        go_ret
        refine ⟨false, rfl, HO.out, fun _ => ?_⟩
        cases hw : wideL l with
        | true => exact Or.inl rfl
        | false =>
          right
          have h1 := HT.out hw
          have h2 := HM.out
          omega
/-- The append law within a drawn region, of any row. -/
theorem step_append_ext {P : Program} (w : World) {ops : Array Oper} {o : Oper} {a : Act} {K : Act → World → Prop} {Q : Exit → Act → World → Prop} {E : Prop} (hgd : o.guard = none) (s x : Operand) (t : TypeId)
    (ho : o.op = .call { callee := .builtin .append, args := #[s, x], argTypes := #[t, t] })
    (base : Nat) (e : TypeId) (i : TypeInfo) (z : Value) (size bytes : Nat) (ht : P.underlying t = some (.slice e)) (hi : P.info? e = some i) (hz : i.zero = some z)
    (hsize : i.size = size) (hby : i.bytes = bytes) (hzs : z.cells.size = size) (hsz : 0 < size)
    (v : Value) (n : Nat) (xs : List Value) (hs : a.eval s = v) (hown : w.ownsRow base e size v n xs)
    (ao : Option Addr) (m c : Nat) (news : List Value) (hx : a.eval x = .slice ao m c) (hl : news.length = m * size) (hn0 : ao = none → m = 0 ∧ c = 0) (hnews : ∀ ad, ao = some ad → ∀ j u, news[j]? = some u → w.cell? (ad.add j) = some u) (h1 : ∀ u ∈ news, u.oneCell' = true)
    (h63 : n + m ≤ maxLen) (hbytes : (n + m) * bytes ≤ 140737488355328) (hbase : base ≤ w.heap.size)
    (h : ∀ v' w', w'.ownsRow base e size v' (n + m) (xs ++ news) → Only v.ownBlock.toList w w' → (v'.ownBlock = v.ownBlock ∨ v'.ownBlock = some w.heap.size) → K (a.put o.dst v') w') :
    if Region.wanted o (yielded ops a.tmps) = true then Oper.wp P o a w K Q else E := by
  have hw : Region.wanted o (yielded ops a.tmps) = true := by simp [Region.wanted, hgd]
  rw [if_pos hw]
  cases ao with
  | none =>
    obtain ⟨rfl, rfl⟩ := hn0 rfl
    have hrun := run_append_owned_none (P := P) (w := w) base t o.type e i size ht hi v n xs hown
    have hnil : news = [] := by
      cases news with
      | nil => rfl
      | cons _ _ => simp at hl
    subst hnil
    unfold Oper.wp
    simp [execOp, ho, resolve, invoke, builtin, hs, hx, hrun, Result.andThen]
    exact h v w (by rw [Nat.add_zero, List.append_nil]; exact hown) (Only.refl _ _) (Or.inl rfl)
  | some ad =>
    obtain ⟨v', w', hr, h2, h3, h4, h5⟩ := run_append_own_at (P := P) w base t o.type e i z size bytes ht hi hz hsize hby hzs hsz v n xs hown ad m c news hl (hnews ad rfl) h1 h63 hbytes hbase
    unfold Oper.wp execOp
    simp only [ho, resolve, invoke, builtin, Sem.run_bind, Sem.run_pure, Result.andThen_ok, List.map_toArray, List.map_cons, List.map_nil, hs, hx, hr]
    exact h v' w' h2 ((Only.refl _ w).grown h3 (fun k hk => Or.inl (by rw [hk]; simp))) h5
end Go.Proofs.YtngcdkbnljoodaaGreatDoor

namespace Go.Proofs.YtngcdkbnljoodaaGreatDoor
set_option linter.unusedVariables false
set_option linter.unusedSimpArgs false
open Go.RowKit Go.Proofs.YtngcdkbnljoodaaGreatDoorW.PrintWords

set_option maxHeartbeats 4000000 in
theorem compact_wide {w : World} {B : HB} {p b : Nat} {H : HT} (h : HalIs w B p b H) {v : Value} {sn : List Bs} (hv : RowS w v sn) (hl : sn.length ≤ 140737488355328) (hx : ∀ x ∈ sn, x.length ≤ 140737488355328) (hwd : wideL sn = true) :
    Calls Tryz.prog 12 #[.pointer (some ⟨B.h, 0, none⟩), v] w (HapPost B p b (H.compact sn).1 (H.compact sn).2 w) := by
  obtain ⟨a, cap, rfl, hc⟩ := hv
  have HI := Lib.hid h
  have HRC : Hid (RowC w a sn) := hc
  have HCF := Lib.hid (containsfunc_of (cap := cap) HRC.out hl hx)
  rw [show sn.any (fun x => decide (398 < x.length)) = wideL sn from rfl, hwd] at HCF
  obtain ⟨M, hM⟩ : ∃ M, M = sn.length := ⟨_, rfl⟩
  rw [← hM] at hl HCF ⊢
  have HA : Hid (H.compact sn = (H, 3)) := by show _ = _; unfold HT.compact; rw [if_pos hwd]
  clear h hc hx hM
  go_enter Tryz.func12, Tryz.ntmps12
  go_wp2_with fail
  refine (HCF.out).mono ?_
  rintro e w2 ⟨rfl, hw2⟩
  subst w2
  go_wp2_with fail
  go_ret
  rw [HA.out]
  exact HapPost.same HI.out
/-- A row beside halves. -/
def RowF (w0 w : World) (F : List Nat) (v : Value) (l : List Bs) : Prop := w.ownsRow w0.heap.size 9 1 v l.length (l.map strV) ∧ ∀ g, v.ownBlock = some g → g ∈ F
theorem RowF.away {w0 w w' : World} {F : List Nat} {v : Value} {l : List Bs} (h : RowF w0 w F v l) (ho : Away2 F w w') : RowF w0 w' F v l := ⟨own_away2 h.1 ho h.2, h.2⟩
theorem RowF.keep {w0 w w' : World} {F : List Nat} {v : Value} {l : List Bs} (h : RowF w0 w F v l) (ho : Only [] w w') : RowF w0 w' F v l := ⟨own_keep h.1 ho (by simp), h.2⟩
theorem RowF.sub {w0 w : World} {F G : List Nat} {v : Value} {l : List Bs} (h : RowF w0 w F v l) (hs : ∀ x, x ∈ F → x ∈ G) : RowF w0 w G v l := ⟨h.1, fun g hg => hs g (h.2 g hg)⟩
theorem RowF.nil (w0 w : World) (F : List Nat) : RowF w0 w F (.slice none 0 0) [] := ⟨World.ownsRow_nil _ _ _ _, fun g h => by simp [Value.ownBlock] at h⟩
/-- Within the loop: halves that agree with what was told. -/
def SuIn (w0 w : World) (p b hh : Nat) (sv tv : Value) : Prop := ∃ F H, HIn w0 w p b hh F H ∧ Fit H ∧ H.J.s.n = 200 ∧ RowF w0 w F sv H.sn ∧ RowF w0 w F tv H.tl
/-- Behind the loop: what the store tells. -/
def SuOut (w0 w : World) (p b : Nat) (sv tv ov mv : Value) : Prop := ∃ (F : List Nat) (s : St) (u : Nat) (a : Int) (sn tl on mo : List Bs), StoreIs w p b s ∧ s.n = 200 ∧ Only [] w0 w ∧ (∀ x, x ∈ F → x < w.heap.size ∧ x ≠ p ∧ x ≠ b) ∧
  RowF w0 w F sv sn ∧ RowF w0 w F tv tl ∧ RowF w0 w F ov on ∧ RowF w0 w F mv mo ∧ (Tells s u (a, sn, tl) ∨ Tells s u (a, on, mo))
/-- Behind an act: its answer c; next, add: what was under way. -/
def SuStep (w0 w : World) (p b hh : Nat) (c : Int) (sv tv nv av : Value) : Prop := ∃ (F : List Nat) (H : HT) (sn tl on mo : List Bs), HIn w0 w p b hh F H ∧ H.J.s.n = 200 ∧
  RowF w0 w F sv sn ∧ RowF w0 w F tv tl ∧ RowF w0 w F nv on ∧ RowF w0 w F av mo ∧
  ((c ≠ 0 ∧ c ≠ 16 ∧ Fit H ∧ H.sn = sn ∧ H.tl = tl) ∨ (c = 0 ∧ Fit H ∧ H.sn = on ∧ H.tl = mo) ∨ (c = 16 ∧ ∃ u a, Tells H.J.s u (a, sn, tl) ∨ Tells H.J.s u (a, on, mo)))
theorem SuIn.out {w0 w : World} {p b hh : Nat} {sv tv : Value} (h : SuIn w0 w p b hh sv tv) : SuOut w0 w p b sv tv sv tv := by
  obtain ⟨F, H, h1, h2, h3, h4, h5⟩ := h
  exact ⟨F, H.J.s, H.use, H.age, H.sn, H.tl, H.sn, H.tl, h1.st, h3, h1.on, h1.fl, h4, h5, h4, h5, Or.inl h2.tells⟩
theorem SuIn.keep {w0 w w' : World} {p b hh : Nat} {sv tv : Value} (h : SuIn w0 w p b hh sv tv) (ho : Only [] w w') : SuIn w0 w' p b hh sv tv := by
  obtain ⟨F, H, h1, h2, h3, h4, h5⟩ := h
  exact ⟨F, H, h1.keep ho, h2, h3, h4.keep ho, h5.keep ho⟩
theorem SuIn.on {w0 w : World} {p b hh : Nat} {sv tv : Value} (h : SuIn w0 w p b hh sv tv) : Only [] w0 w := by
  obtain ⟨F, H, h1, _⟩ := h
  exact h1.on
theorem SuStep.same {w0 w : World} {p b hh : Nat} {c : Int} {sv tv nv av : Value} (h : SuStep w0 w p b hh c sv tv nv av) (h0 : c ≠ 0) (h1 : c ≠ 16) : SuIn w0 w p b hh sv tv := by
  obtain ⟨F, H, sn, tl, on, mo, i1, i2, i3, i4, i5, i6, (⟨_, _, i7, rfl, rfl⟩ | ⟨e, _⟩ | ⟨e, _⟩)⟩ := h
  · exact ⟨F, H, i1, i7, i2, i3, i4⟩
  · exact absurd e h0
  · exact absurd e h1
/-- Behind Append, the row of what was under way is built: mv. -/
theorem SuIn.app {w0 w w' : World} {p b hh : Nat} {F : List Nat} {H : HT} {sv tv : Value} (hf : Fit H) (hn : H.J.s.n = 200) (hs : RowF w0 w F sv H.sn) (ht : RowF w0 w F tv H.tl) {r : Bs} (hi : HIn w0 w p b hh F (H.append r).1)
    (ho : Only [] w w') {av : Value} (ha : w'.ownsRow w.heap.size 9 1 av (H.tl.length + 1) (H.tl.map strV ++ [strV r])) : SuStep w0 w' p b hh (H.append r).2 sv tv sv av := by
  have ha2 : w'.ownsRow w.heap.size 9 1 av (H.tl ++ [r]).length ((H.tl ++ [r]).map strV) := by
    rw [List.length_append, List.map_append]
    exact ha
  have hG : ∀ x, x ∈ F ++ av.ownBlock.toList → x ∈ F ∨ (w.heap.size ≤ x ∧ x < w'.heap.size) := fun x hx => by
    rcases List.mem_append.1 hx with h | h
    · exact Or.inl h
    · right
      have := ha2.lt x (by simpa using h)
      exact this
  have hF : ∀ x, x ∈ F → x ∈ F ++ av.ownBlock.toList := fun x hx => by simp [hx]
  have hav : RowF w0 w' (F ++ av.ownBlock.toList) av (H.tl ++ [r]) := ⟨own_mono ha2 hi.on.size, fun g hg => by simp [hg]⟩
  obtain ⟨c1, _, hc⟩ := fit_append hf r
  refine ⟨F ++ av.ownBlock.toList, (H.append r).1, H.sn, H.tl, H.sn, H.tl ++ [r], hi.frame ho _ hG, c1.trans hn, (hs.keep ho).sub hF, (ht.keep ho).sub hF, (hs.keep ho).sub hF, hav, ?_⟩
  rcases hc with ⟨e1, _, e2⟩ | ⟨e1, _, _, e2⟩ | ⟨e1, _, _, e2, _, e3, e4, _, _⟩ | ⟨e1, _, _, e2⟩
  · left; rw [e1, e2]; exact ⟨by decide, by decide, hf, rfl, rfl⟩
  · left; rw [e1, e2]; exact ⟨by decide, by decide, hf, rfl, rfl⟩
  · right; left; exact ⟨e1, e2, e3, e4⟩
  · right; right
    exact ⟨e1, H.use, H.age, e2⟩
end Go.Proofs.YtngcdkbnljoodaaGreatDoor

namespace Go.Proofs.YtngcdkbnljoodaaGreatDoor
set_option linter.unusedVariables false
set_option linter.unusedSimpArgs false
open Go.RowKit Go.Proofs.YtngcdkbnljoodaaGreatDoorW.PrintWords

theorem cell_stay {w w' : World} {p : Addr} {x : Value} (h : w.cell? p = some x) (ho : Only [] w w') : w'.cell? p = some x := by
  have hlt : p.block < w.heap.size := by
    rcases Nat.lt_or_ge p.block w.heap.size with h2 | h2
    · exact h2
    · unfold World.cell? at h
      rw [Array.getElem?_eq_none h2] at h
      simp at h
  exact (World.cell?_of_block (ho.block _ hlt (by simp))).trans h
theorem ActOk.keep {w w' : World} {x : ActH} (h : ActOk w x) (ho : Only [] w w') : ActOk w' x := ⟨h.t, h.n, h.row.keep ho, h.l, h.z, h.x⟩
theorem SuIn.start {w0 w : World} {p b hh : Nat} {H : HT} (h : HIn w0 w p b hh [] H) (hf : Fit H) (hn : H.J.s.n = 200) (h1 : H.sn = []) (h2 : H.tl = []) : SuIn w0 ((w.alloc (.cells #[] 9)).alloc (.cells #[] 9)) p b hh (.slice (some ⟨w.heap.size, 0, none⟩) 0 0) (.slice (some ⟨w.heap.size + 1, 0, none⟩) 0 0) := by
  have hs := h.on.size
  have hsz : (w.alloc (.cells #[] 9)).heap.size = w.heap.size + 1 := by simp
  have e1 := own_empty w 9 w0.heap.size hs
  have e2 := own_empty (w.alloc (.cells #[] 9)) 9 w0.heap.size (by omega)
  rw [hsz] at e2
  refine ⟨[w.heap.size, w.heap.size + 1], H, h.frame (((Only.refl [] w).alloc _).alloc _) _ (fun x hx => ?_), hf, hn, ?_, ?_⟩
  · right
    simp at hx
    simp
    omega
  · rw [h1]
    exact ⟨e1.alloc _, fun g hg => by cases hg; simp⟩
  · rw [h2]
    exact ⟨e2, fun g hg => by cases hg; simp⟩
theorem Away2.blk {F : List Nat} {w w' : World} (h : Away2 F w w') {k : Nat} {o : Obj} (hk : w.heap[k]? = some o) (hn : k ∈ F) : w'.heap[k]? = some o := by
  obtain ⟨S, h1, h2⟩ := h
  exact h1.blk hk (h2 k hn)
/-- The append law of any row, outside of drawn regions. -/
theorem wpList_append_ext {P : Program} (w : World) {ops : Array Oper} {rest : List Oper} {o : Oper} {a : Act} {Q : Exit → Act → World → Prop} (hgd : o.guard = none) (s x : Operand) (t : TypeId)
    (ho : o.op = .call { callee := .builtin .append, args := #[s, x], argTypes := #[t, t] })
    (base : Nat) (e : TypeId) (i : TypeInfo) (z : Value) (size bytes : Nat) (ht : P.underlying t = some (.slice e)) (hi : P.info? e = some i) (hz : i.zero = some z)
    (hsize : i.size = size) (hby : i.bytes = bytes) (hzs : z.cells.size = size) (hsz : 0 < size)
    (v : Value) (n : Nat) (xs : List Value) (hs : a.eval s = v) (hown : w.ownsRow base e size v n xs)
    (ao : Option Addr) (m c : Nat) (news : List Value) (hx : a.eval x = .slice ao m c) (hl : news.length = m * size) (hn0 : ao = none → m = 0 ∧ c = 0) (hnews : ∀ ad, ao = some ad → ∀ j u, news[j]? = some u → w.cell? (ad.add j) = some u) (h1 : ∀ u ∈ news, u.oneCell' = true)
    (h63 : n + m ≤ maxLen) (hbytes : (n + m) * bytes ≤ 140737488355328) (hbase : base ≤ w.heap.size)
    (h : ∀ v' w', w'.ownsRow base e size v' (n + m) (xs ++ news) → Only v.ownBlock.toList w w' → (v'.ownBlock = v.ownBlock ∨ v'.ownBlock = some w.heap.size) → wpList P ops Q rest (a.put o.dst v') w') :
    wpList P ops Q (o :: rest) a w := by
  refine wpList_plain hgd fun K hK => ?_
  cases ao with
  | none =>
    obtain ⟨rfl, rfl⟩ := hn0 rfl
    have hrun := run_append_owned_none (P := P) (w := w) base t o.type e i size ht hi v n xs hown
    have hnil : news = [] := by
      cases news with
      | nil => rfl
      | cons _ _ => simp at hl
    subst hnil
    unfold Oper.wp
    simp [execOp, ho, resolve, invoke, builtin, hs, hx, hrun, Result.andThen]
    exact hK _ _ (h v w (by rw [Nat.add_zero, List.append_nil]; exact hown) (Only.refl _ _) (Or.inl rfl))
  | some ad =>
    obtain ⟨v', w', hr, h2, h3, h4, h5⟩ := run_append_own_at (P := P) w base t o.type e i z size bytes ht hi hz hsize hby hzs hsz v n xs hown ad m c news hl (hnews ad rfl) h1 h63 hbytes hbase
    unfold Oper.wp execOp
    simp only [ho, resolve, invoke, builtin, Sem.run_bind, Sem.run_pure, Result.andThen_ok, List.map_toArray, List.map_cons, List.map_nil, hs, hx, hr]
    exact hK _ _ (h v' w' h2 ((Only.refl _ w).grown h3 (fun k hk => Or.inl (by rw [hk]; simp))) h5)
theorem own_one {n k c m : Nat} (h : k ∈ (Value.slice (some ⟨n, 0, none⟩) m c).ownBlock.toList) : k = n := by
  have h2 : k ∈ (some n).toList := h
  simpa using h2
end Go.Proofs.YtngcdkbnljoodaaGreatDoor

