/- The law's Own: a flat graph as the reference has it. No conditions beyond those typed. -/
import Derived.Test.YtofgaeiihclokaaNedA
import Derived.Deep.AppendLies
namespace Go.Proofs.Ytofgaeiihclokaa.P
open Go.RowKit Go.Shelf Go.Lib Go.Sort Go.Maps Go.Proofs.YtofgaeiihclokaaW.PrintWords Go.Proofs.YtofgaeiihclokaaW.PrintLast Go.Proofs.YtofgaeiihclokaaW.PrintMore
set_option linter.unusedVariables false
set_option linter.unusedSimpArgs false

theorem rties_move {w w' : World} {base : Nat} {v : Value} {l : List S69} (h : Kd.R k69 69 w base (fun _ => True) v l) (hb : ∀ b, v.ownBlock = some b → w'.heap[b]? = w.heap[b]?) : Kd.R k69 69 w' base (fun _ => True) v l := by
  obtain ⟨_, inner, ho, hr⟩ := h
  exact ⟨fun _ _ => trivial, inner, own_move ho hb, hr.imp_ (fun p c hp => by obtain rfl := k69_openM hp; exact k69_mkM _ _ _ p)⟩
/-- Own, within its loop. -/
structure OIn (w : World) (A0 A1 : Option Addr) (n c0 m c1 : Nat) (T : List S48) (k : Nat) (v : Value) (wr : World) : Prop where
  bf : wr.heap[w.heap.size]? = some (.cells #[.slice A0 n c0, .slice A1 m c1] 25 (0, 0))
  b2 : wr.heap[w.heap.size + 1]? = some (.cells #[.slice none 0 0, .slice none 0 0] 30 (0, 0))
  b3 : wr.heap[w.heap.size + 1 + 1]? = some (.cells #[.slice A0 n c0, v] 30 (0, 0))
  row : Kd.R k69 69 wr w.heap.size (fun _ => True) v ((T.take k).map conv)
  on : Below w.heap.size w wr

theorem OIn.apart {w wr : World} {A0 A1 : Option Addr} {n c0 m c1 k : Nat} {T : List S48} {v : Value} (h : OIn w A0 A1 n c0 m c1 T k v wr) {b : Nat} (hb : v.ownBlock = some b) : b ≠ w.heap.size ∧ b ≠ w.heap.size + 1 ∧ b ≠ w.heap.size + 1 + 1 := by
  obtain ⟨_, inner, hown, _⟩ := h.row
  obtain ⟨cells, hcb⟩ := own_typed hown b hb
  refine ⟨?_, ?_, ?_⟩
  · rintro rfl
    have := hcb.symm.trans h.bf
    injection this with this
    injection this with _ this
    exact absurd this (by decide)
  · rintro rfl
    have := hcb.symm.trans h.b2
    injection this with this
    injection this with _ this
    exact absurd this (by decide)
  · rintro rfl
    have := hcb.symm.trans h.b3
    injection this with this
    injection this with _ this
    exact absurd this (by decide)
theorem OIn.grown3 {w wr W w6 : World} {A0 A1 : Option Addr} {n c0 m c1 k : Nat} {T : List S48} {v : Value} (h : OIn w A0 A1 n c0 m c1 T k v wr) (hW : Below wr.heap.size wr W) (hg : W.grownBy w6 v.ownBlock) :
    w6.heap[w.heap.size]? = some (.cells #[.slice A0 n c0, .slice A1 m c1] 25 (0, 0)) ∧ w6.heap[w.heap.size + 1]? = some (.cells #[.slice none 0 0, .slice none 0 0] 30 (0, 0)) ∧ w6.heap[w.heap.size + 1 + 1]? = some (.cells #[.slice A0 n c0, v] 30 (0, 0)) := by
  have hlt : w.heap.size + 1 + 1 < wr.heap.size := (Array.getElem?_eq_some_iff.1 h.b3).1
  have hs := hW.size
  refine ⟨?_, ?_, ?_⟩
  · exact (hg.block _ (by omega) (fun e => (h.apart e.symm).1 rfl)).trans ((hW.block _ (by omega)).trans h.bf)
  · exact (hg.block _ (by omega) (fun e => (h.apart e.symm).2.1 rfl)).trans ((hW.block _ (by omega)).trans h.b2)
  · exact (hg.block _ (by omega) (fun e => (h.apart e.symm).2.2 rfl)).trans ((hW.block _ (by omega)).trans h.b3)
theorem OIn.grow {w wr W w6 : World} {A0 A1 : Option Addr} {n c0 m c1 k : Nat} {T : List S48} {v v' : Value} {inner : List Value} {x : S48} (h : OIn w A0 A1 n c0 m c1 T k v wr) (hW : Below wr.heap.size wr W) (hg : W.grownBy w6 v.ownBlock)
    (hreps : Reps (fun p c => k69.M wr w.heap.size (fun b => True ∧ some b ≠ v.ownBlock) p c) 4 ((T.take k).map conv) inner) (hx : T[k]? = some x)
    (ho : w6.ownsRow w.heap.size 69 4 v' (k + 1) (inner ++ [.int .i64 x.f0, .int .i64 x.f1, .int .i64 x.f2, .int .i64 x.f3])) (hk : ((T.take k).map conv).length = k) :
    OIn w A0 A1 n c0 m c1 T (k + 1) v' (w6.setCell ⟨w.heap.size + 1 + 1, 1, none⟩ v') := by
  obtain ⟨g1, g2, g3⟩ := h.grown3 hW hg
  have hset : (w6.setCell ⟨w.heap.size + 1 + 1, 1, none⟩ v').heap[w.heap.size + 1 + 1]? = some (.cells #[.slice A0 n c0, v'] 30 (0, 0)) := by
    simp [World.setCell, Array.getElem?_modify, g3]
  have hfar : ∀ b, b ≠ w.heap.size + 1 + 1 → (w6.setCell ⟨w.heap.size + 1 + 1, 1, none⟩ v').heap[b]? = w6.heap[b]? := fun b hb => Below.heap_setCell w6 ⟨w.heap.size + 1 + 1, 1, none⟩ v' b hb
  have hne : ∀ b, v'.ownBlock = some b → b ≠ w.heap.size + 1 + 1 := by
    rintro b hb rfl
    obtain ⟨cells, hcb⟩ := own_typed ho _ hb
    have := hcb.symm.trans g3
    injection this with this
    injection this with _ this
    exact absurd this (by decide)
  have hlen : (T.take (k + 1)).map conv = (T.take k).map conv ++ [conv x] := by rw [List.take_add_one, hx, List.map_append]; rfl
  refine ⟨(hfar _ (by omega)).trans g1, (hfar _ (by omega)).trans g2, hset, ?_, ?_⟩
  · refine ⟨fun _ _ => trivial, inner ++ [.int .i64 x.f0, .int .i64 x.f1, .int .i64 x.f2, .int .i64 x.f3], ?_, ?_⟩
    · rw [hlen, List.length_append, hk]
      exact own_move ho (fun b hb => hfar b (hne b hb))
    · rw [hlen]
      refine Reps.snoc (hreps.imp_ (fun p c hp => by obtain rfl := k69_openM hp; exact k69_mkM _ _ _ p)) ?_ rfl
      exact k69_mkM _ _ _ (conv x)
  · have hb : ∀ b, v.ownBlock = some b → w.heap.size ≤ b := by
      obtain ⟨_, inner', hown, _⟩ := h.row
      exact fun b hb => own_base hown b hb
    exact below_set ((h.on.trans (hW.mono h.on.size)).grown hg (Nat.le_trans h.on.size hW.size) hb) (by omega)

set_option maxRecDepth 100000 in
theorem own_of_law (A0 A1 : Option Addr) (n c0 c1 : Nat) (T : List S48) (w : World) (h1 : Kd.C k48 w A1 T.length T) (hc1 : T.length ≤ c1) (hT : T.length < 4398046511104) :
    Calls Try.prog 13 #[.agg #[.slice A0 n c0, .slice A1 T.length c1]] w fun e w' => ∃ A c, e = .returned (.agg #[.slice A0 n c0, .slice A T.length c]) ∧ T.length ≤ c ∧ Kd.C k69 w' A T.length (T.map conv) ∧ Below w.heap.size w w' := by
  obtain ⟨m, hm⟩ : ∃ m, m = T.length := ⟨_, rfl⟩
  have HM := Lib.hid hm
  have H1 := Lib.hid h1
  rw [← hm] at hc1 hT ⊢
  clear hm h1
  have HI : Hid (OIn w A0 A1 n c0 m c1 T 0 (.slice none 0 0) (((w.alloc (.cells #[.slice A0 n c0, .slice A1 m c1] 25)).alloc (.cells #[.slice none 0 0, .slice none 0 0] 30)).alloc (.cells #[.slice A0 n c0, .slice none 0 0] 30))) := by
    refine ⟨?_, ?_, ?_, ?_, ?_⟩
    · rw [Below.heap_alloc _ _ _ (by simp; omega), Below.heap_alloc _ _ _ (by simp)]
      exact blk_new w _
    · rw [Below.heap_alloc _ _ _ (by simp)]
      have := blk_new (w.alloc (.cells #[.slice A0 n c0, .slice A1 m c1] 25)) (.cells #[.slice none 0 0, .slice none 0 0] 30)
      simpa using this
    · have := blk_new ((w.alloc (.cells #[.slice A0 n c0, .slice A1 m c1] 25)).alloc (.cells #[.slice none 0 0, .slice none 0 0] 30)) (.cells #[.slice A0 n c0, .slice none 0 0] 30)
      simpa using this
    · exact Kd.R_nil _ _ _ _ _
    · exact (((Below.refl w.heap.size w).alloc (Nat.le_refl _) _).alloc (by simp) _).alloc (by simp; omega) _
  obtain ⟨i0, hi0, hzz⟩ := Option.map_eq_some_iff.1 info69
  simp only [Prod.mk.injEq] at hzz
  obtain ⟨hz0, hz1, hz2⟩ := hzz
  go_enter Try.func13, Try.ntmps13
  go_wp2_with fail
  go_loopw [4, 11] (fun _ i wr => ∃ (k : Nat) (v : Value), k ≤ m ∧ i = .int .i64 (k : Int) ∧ Hid (OIn w A0 A1 n c0 m c1 T k v wr)) (fun _ i _ => m - (intOf i).toNat)
  case atStart => exact ⟨0, _, Nat.zero_le _, rfl, HI⟩
  case round =>
    obtain ⟨k, v, hkm, rfl, HJ⟩ := hrel
    by_cases hk : k < m
    · have hc1k : (k : Int) < (m : Int) := by omega
      have hk0 : (0 : Int) ≤ (k : Int) := by omega
      obtain ⟨x, hx⟩ : ∃ x, T[k]? = some x := ⟨_, List.getElem?_eq_getElem (by have := HM.out; omega)⟩
      obtain ⟨ad, rfl, a0, a1, a2, a3⟩ := at_T48 (by have := Kd.C_below H1.out HJ.out.on; exact this) (k : Int) (by omega) (by have := HM.out; omega)
      have hx' : rd_T48 T (k : Int) = x := by show T.getD _ _ = x; rw [List.getD_eq_getElem?_getD]; simp [hx]
      rw [hx', Int.toNat_natCast] at a0 a1 a2 a3
      have HX := Lib.hid hx
      clear hx hx'
      obtain ⟨x0, x1, x2, x3⟩ := x
      change _ = some (Value.int .i64 x0) at a0
      change _ = some (Value.int .i64 x1) at a1
      change _ = some (Value.int .i64 x2) at a2
      change _ = some (Value.int .i64 x3) at a3
      have b1 := blkc HJ.out.bf 1
      have b3 := blkc HJ.out.b3 1
      change _ = some (Value.slice (some ad) m c1) at b1
      change _ = some v at b3
      have f3 : wr.frozen? ⟨w.heap.size + 1 + 1, 1, none⟩ = false := by simp [World.frozen?, HJ.out.b3]
      obtain ⟨_, inner, hown, hreps⟩ := HJ.out.row
      have HOW := Lib.hid hown
      have HRE := Lib.hid hreps
      have hwk : IntKind.i64.wrap ((k : Int) + 1) = (k : Int) + 1 := IntWalk.i64_in _ (by omega)
      have hlk : ((T.take k).map conv).length = k := by simp; have := HM.out; omega
      have HLK := Lib.hid hlk
      have hsl := Kd.R_slice HJ.out.row
      obtain ⟨Av, cv, rfl⟩ := hsl
      clear hown hreps hlk
      go_upto_region 5 with (fail)
      have HB3 : Hid (wr.heap[w.heap.size + 1 + 1]? = some (.cells #[.slice A0 n c0, .slice Av k cv] 30 (0, 0))) := by show _ = _; have := HJ.out.b3; rw [HLK.out] at this; exact this
      have HBW := Lib.hid (show Below wr.heap.size wr ((wr.alloc (.cells #[.int .i64 x0, .int .i64 x1, .int .i64 x2, .int .i64 x3] 69)).drew) from below_drew (below_alloc (Below.refl _ _) _))
      rw [HLK.out] at HJ HOW HRE b3
      have b3w : (wr.alloc (.cells #[.int .i64 x0, .int .i64 x1, .int .i64 x2, .int .i64 x3] 69)).cell? ⟨w.heap.size + 1 + 1, 1, none⟩ = some (.slice Av k cv) := Lib.cell?_alloc_some _ b3
      go_region_law ((refine step_append_lies _ (by rfl) _ _ 28 (by rfl) w.heap.size 69 i0 (.agg #[.int .i64 0, .int .i64 0, .int .i64 0, .int .i64 0]) 4 32 Try.underlying28 hi0 hz0 hz1 hz2 rfl (by decide) (.slice Av k cv) k inner (by rfl) (own_move HOW.out (fun b hb => show (wr.alloc _).heap[b]? = _ from Below.heap_alloc _ _ b (own_lt HOW.out b hb))) ⟨wr.heap.size, 0, none⟩ 1 1 [.int .i64 x0, .int .i64 x1, .int .i64 x2, .int .i64 x3] (by rfl) rfl (World.news_of_block (cs := #[.int .i64 x0, .int .i64 x1, .int .i64 x2, .int .i64 x3]) (t := 69) (fr := (0, 0)) (blk_new wr _)) (by intro u hu; simp at hu; rcases hu with rfl | rfl | rfl | rfl <;> rfl) (by decide) (by unfold maxLen; omega) (by omega) (by have := HJ.out.on.size; simp; omega) (wr.heap.size + 1) (by simp) ?_; intro g9 cap9 w6 hown6 hgrow6 hat6 hlt6; have HG6 := Lib.hid (HJ.out.grow HBW.out hgrow6 HRE.out HX.out hown6 HLK.out); obtain ⟨_, _, e3⟩ := HJ.out.grown3 HBW.out hgrow6; have c6 := blkc e3 1; change _ = some (Value.slice Av k cv) at c6; have f6 : w6.frozen? ⟨w.heap.size + 1 + 1, 1, none⟩ = false := (by simp [World.frozen?, e3]); clear e3 hown6 hgrow6 hat6 hlt6))
      all_goals go_wp2_with fail
      all_goals go_roundw
      all_goals first | exact ⟨k + 1, _, by omega, rfl, HG6⟩ | (simp [intOf]; omega)
    · obtain rfl : k = m := by omega
      have hc1k : ¬ ((k : Int) < (k : Int)) := by omega
      have c30 := blkc HJ.out.b3 0
      have c31 := blkc HJ.out.b3 1
      have c20 := blkc HJ.out.b2 0
      have c21 := blkc HJ.out.b2 1
      change _ = some (Value.slice A0 n c0) at c30
      change _ = some v at c31
      change _ = some (Value.slice none 0 0) at c20
      change _ = some (Value.slice none 0 0) at c21
      have f20 : wr.frozen? ⟨w.heap.size + 1, 0, none⟩ = false := by simp [World.frozen?, HJ.out.b2]
      have f21 : wr.frozen? ⟨w.heap.size + 1, 1, none⟩ = false := by simp [World.frozen?, HJ.out.b2]
      have hT' : (T.take k).map conv = T.map conv := by rw [List.take_of_length_le (by have := HM.out; omega)]
      obtain ⟨Av, cv, rfl⟩ := Kd.R_slice HJ.out.row
      have hlen : (T.map conv).length = k := by rw [List.length_map]; exact HM.out.symm
      have HFar := Lib.hid (fun (u1 u2 : Value) => (Kd.R_reads' (rties_move (w' := (wr.setCell ⟨w.heap.size + 1, 0, none⟩ u1).setCell ⟨w.heap.size + 1, 1, none⟩ u2) HJ.out.row (fun b hb => (Below.heap_setCell _ ⟨w.heap.size + 1, 1, none⟩ u2 b (HJ.out.apart hb).2.1).trans (Below.heap_setCell _ ⟨w.heap.size + 1, 0, none⟩ u1 b (HJ.out.apart hb).2.1)))).2)
      rw [hT', hlen] at HFar c31
      have HB2 := Lib.hid HJ.out.b2
      have HON := Lib.hid HJ.out.on
      clear hT' hlen HJ
      go_wp2_with fail
      refine bodyPost_ret (results_cell_row rfl _ _ (w.heap.size + 1) 30 #[.slice A0 n c0, .slice Av k cv] (0, 0) _ rfl (by refine blk_put (cs := #[.slice A0 n c0, .slice none 0 0]) ?_ 1 _ rfl; refine blk_put (cs := #[.slice none 0 0, .slice none 0 0]) ?_ 0 _ rfl; exact HB2.out) Try.underlying30 rfl (by kernel_rfl)) rfl ?_
      exact ⟨Av, cv, rfl, (HFar.out (.slice A0 n c0) (.slice Av k cv)).1, (HFar.out (.slice A0 n c0) (.slice Av k cv)).2, below_set (below_set HON.out (by omega)) (by omega)⟩
end Go.Proofs.Ytofgaeiihclokaa.P
