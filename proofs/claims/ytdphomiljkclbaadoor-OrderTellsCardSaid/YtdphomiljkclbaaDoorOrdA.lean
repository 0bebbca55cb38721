/- Lemmas and contracts for the functions of one layer of the program, used by the law's proof. No conditions beyond those typed. -/
import Derived.Test.YtdphomiljkclbaaDoorLexY
import Derived.Test.YtdphomiljkclbaaDoorShelf
import Derived.Lib.OthersKept
import Derived.Lib.AppendIntMem
namespace Go.Proofs.YtdphomiljkclbaaDoor
set_option linter.unusedVariables false
set_option linter.unusedSimpArgs false
open Go.RowKit Go.Proofs.YtdphomiljkclbaaDoorW.PrintWords Go.Proofs.YtdphomiljkclbaaDoorW.PrintLast Go.Proofs.YtdphomiljkclbaaDoorW.PrintMore Go.Proofs.YtdphomiljkclbaaDoor.P

/-- An order's fields. -/
structure Ord where
  k : Int
  c : ByteArray
  e : ByteArray
  u : ByteArray
  n : Int
abbrev ordV (o : Ord) : Value := .agg #[.int .i64 o.k, .string o.c, .string o.e, .string o.u, .int .i64 o.n]
/-- The table that strconv reads. -/
abbrev Tab (w : World) : Prop := Lib.TabIs Tryd.prog w "internal/strconv.uint64pow10" .u64 Lib.pow10Tab

theorem alloc_size (w : World) (o : Obj) : (w.alloc o).heap.size = w.heap.size + 1 := by simp
theorem tab_below {w w' : World} (h : Tab w) (hb : Below w.heap.size w w') : Tab w' := by
  unfold Tab Lib.TabIs World.var? at h ⊢
  cases hg : Tryd.prog.globalNamed "internal/strconv.uint64pow10" with
  | none => rw [hg] at h; cases h
  | some g =>
    rw [hg] at h
    simp only [Option.bind_some] at h ⊢
    have hlt : g < w.heap.size := by
      rcases Nat.lt_or_ge g w.heap.size with h' | h'
      · exact h'
      · rw [Array.getElem?_eq_none h'] at h; cases h
    rw [hb.block g hlt]
    exact h
theorem tab_alloc {w : World} (h : Tab w) (o : Obj) : Tab (w.alloc o) := tab_below h ((Below.refl _ _).alloc (Nat.le_refl _) o)

theorem text_c (o : Ord) (w : World) : Calls Tryd.prog 15 #[ordV o, .int .i32 99] w fun e w' => e = .returned (.string o.c) ∧ Below w.heap.size w w' := by
  have hu := Tryd.underlying23
  go_enter Tryd.func15, Tryd.ntmps15
  go_wp2
  go_ret
  exact ⟨rfl, (Below.refl _ _).alloc (Nat.le_refl _) _⟩
theorem text_e (o : Ord) (w : World) : Calls Tryd.prog 15 #[ordV o, .int .i32 101] w fun e w' => e = .returned (.string o.e) ∧ Below w.heap.size w w' := by
  have hu := Tryd.underlying23
  go_enter Tryd.func15, Tryd.ntmps15
  go_wp2
  go_ret
  exact ⟨rfl, (Below.refl _ _).alloc (Nat.le_refl _) _⟩
theorem text_u (o : Ord) (w : World) : Calls Tryd.prog 15 #[ordV o, .int .i32 117] w fun e w' => e = .returned (.string o.u) ∧ Below w.heap.size w w' := by
  have hu := Tryd.underlying23
  go_enter Tryd.func15, Tryd.ntmps15
  go_wp2
  go_ret
  exact ⟨rfl, (Below.refl _ _).alloc (Nat.le_refl _) _⟩
theorem text_n (o : Ord) (h0 : -9223372036854775808 ≤ o.n) (h1 : o.n ≤ 9223372036854775807) (w : World) (ht : Tab w) : Calls Tryd.prog 15 #[ordV o, .int .i32 110] w fun e w' => e = .returned (.string ⟨(Lib.itoa o.n).toArray⟩) ∧ Below w.heap.size w w' := by
  have hu := Tryd.underlying23
  go_enter Tryd.func15, Tryd.ntmps15
  have ht2 := tab_alloc ht (.cells #[Value.int IntKind.i64 o.k, Value.string o.c, Value.string o.e, Value.string o.u, Value.int IntKind.i64 o.n] 23)
  go_wp2_with (go_at_call 27; refine (Tryd.strconv_Itoa _ h0 h1 _ ht2).mono ?_; rintro e w' ⟨rfl, k, os, rfl⟩)
  go_ret
  exact ⟨rfl, ((Below.refl _ _).alloc (Nat.le_refl _) _).trans (Go.Lib.below_grow _ _ (by simp) k os)⟩

/-- An order of which only some is left. -/
def putO (o out : Ord) (c : Nat) : Ord := if (c : Int) = 99 then { out with c := o.c } else if (c : Int) = 101 then { out with e := o.e } else if (c : Int) = 117 then { out with u := o.u } else { out with n := o.n }
def keptL (o : Ord) : List UInt8 → Ord → Ord
  | [], out => out
  | c :: l, out => keptL o l (putO o out c.toNat)
def keptO (o : Ord) (s : ByteArray) : Ord := keptL o s.data.toList ⟨o.k, ⟨#[]⟩, ⟨#[]⟩, ⟨#[]⟩, 0⟩

theorem drop_byte (s : ByteArray) (p : Nat) (h : p < s.size) : s.data.toList.drop p = s[p] :: s.data.toList.drop (p + 1) := by
  have hl : p < s.data.toList.length := by rw [Array.length_toList]; exact h
  rw [List.drop_eq_getElem_cons hl]
  rfl
theorem kept_world (o : Ord) (s : ByteArray) (w : World) : Below w.heap.size w ((((w.alloc (Obj.cells #[Value.int IntKind.i64 o.k, Value.string o.c, Value.string o.e, Value.string o.u, Value.int IntKind.i64 o.n] 23)).alloc (Obj.cells #[Value.int IntKind.i64 0, Value.string { data := #[] }, Value.string { data := #[] }, Value.string { data := #[] }, Value.int IntKind.i64 0] 23)).alloc (Obj.cells #[Value.int IntKind.i64 o.k, Value.string { data := #[] }, Value.string { data := #[] }, Value.string { data := #[] }, Value.int IntKind.i64 0] 23)).iter s 0) ∧
    ((((w.alloc (Obj.cells #[Value.int IntKind.i64 o.k, Value.string o.c, Value.string o.e, Value.string o.u, Value.int IntKind.i64 o.n] 23)).alloc (Obj.cells #[Value.int IntKind.i64 0, Value.string { data := #[] }, Value.string { data := #[] }, Value.string { data := #[] }, Value.int IntKind.i64 0] 23)).alloc (Obj.cells #[Value.int IntKind.i64 o.k, Value.string { data := #[] }, Value.string { data := #[] }, Value.string { data := #[] }, Value.int IntKind.i64 0] 23)).iter s 0).heap[w.heap.size]? = some (Obj.cells #[Value.int IntKind.i64 o.k, Value.string o.c, Value.string o.e, Value.string o.u, Value.int IntKind.i64 o.n] 23) ∧
    ((((w.alloc (Obj.cells #[Value.int IntKind.i64 o.k, Value.string o.c, Value.string o.e, Value.string o.u, Value.int IntKind.i64 o.n] 23)).alloc (Obj.cells #[Value.int IntKind.i64 0, Value.string { data := #[] }, Value.string { data := #[] }, Value.string { data := #[] }, Value.int IntKind.i64 0] 23)).alloc (Obj.cells #[Value.int IntKind.i64 o.k, Value.string { data := #[] }, Value.string { data := #[] }, Value.string { data := #[] }, Value.int IntKind.i64 0] 23)).iter s 0).heap[w.heap.size + 1]? = some (Obj.cells #[Value.int IntKind.i64 0, Value.string { data := #[] }, Value.string { data := #[] }, Value.string { data := #[] }, Value.int IntKind.i64 0] 23) ∧
    ((((w.alloc (Obj.cells #[Value.int IntKind.i64 o.k, Value.string o.c, Value.string o.e, Value.string o.u, Value.int IntKind.i64 o.n] 23)).alloc (Obj.cells #[Value.int IntKind.i64 0, Value.string { data := #[] }, Value.string { data := #[] }, Value.string { data := #[] }, Value.int IntKind.i64 0] 23)).alloc (Obj.cells #[Value.int IntKind.i64 o.k, Value.string { data := #[] }, Value.string { data := #[] }, Value.string { data := #[] }, Value.int IntKind.i64 0] 23)).iter s 0).heap[w.heap.size + 1 + 1]? = some (Obj.cells #[Value.int IntKind.i64 o.k, Value.string { data := #[] }, Value.string { data := #[] }, Value.string { data := #[] }, Value.int IntKind.i64 0] 23) ∧
    ((((w.alloc (Obj.cells #[Value.int IntKind.i64 o.k, Value.string o.c, Value.string o.e, Value.string o.u, Value.int IntKind.i64 o.n] 23)).alloc (Obj.cells #[Value.int IntKind.i64 0, Value.string { data := #[] }, Value.string { data := #[] }, Value.string { data := #[] }, Value.int IntKind.i64 0] 23)).alloc (Obj.cells #[Value.int IntKind.i64 o.k, Value.string { data := #[] }, Value.string { data := #[] }, Value.string { data := #[] }, Value.int IntKind.i64 0] 23)).iter s 0).heap[w.heap.size + 1 + 1 + 1]? = some (.stringIter s 0) := by
  generalize Obj.cells #[Value.int IntKind.i64 o.k, Value.string o.c, Value.string o.e, Value.string o.u, Value.int IntKind.i64 o.n] 23 = o1
  generalize Obj.cells #[Value.int IntKind.i64 0, Value.string { data := #[] }, Value.string { data := #[] }, Value.string { data := #[] }, Value.int IntKind.i64 0] 23 = o2
  generalize Obj.cells #[Value.int IntKind.i64 o.k, Value.string { data := #[] }, Value.string { data := #[] }, Value.string { data := #[] }, Value.int IntKind.i64 0] 23 = o3
  refine ⟨below_alloc (below_alloc (below_alloc (below_alloc (Below.refl _ _) _) _) _) _, blk_alloc (blk_alloc (blk_alloc (blk_new w o1) o2) o3) _, ?_, ?_, ?_⟩
  · have h := blk_alloc (blk_alloc (blk_new (w.alloc o1) o2) o3) (.stringIter s 0)
    rw [alloc_size] at h
    exact h
  · have h := blk_alloc (blk_new ((w.alloc o1).alloc o2) o3) (.stringIter s 0)
    rw [alloc_size, alloc_size] at h
    exact h
  · have h := World.iter_heap (((w.alloc o1).alloc o2).alloc o3) s 0
    rw [alloc_size, alloc_size, alloc_size] at h
    exact h

set_option maxHeartbeats 1000000 in
theorem kept_any (o : Ord) (s : ByteArray) (hascii : ∀ i (h : i < s.size), (s[i]'h).toNat < 128) (hlim : s.size < 140737488355328) (w : World) :
    Calls Tryd.prog 25 #[ordV o, .string s] w fun e w' => e = .returned (ordV (keptO o s)) ∧ Below w.heap.size w w' := by
  have hu := Tryd.underlying23
  go_enter Tryd.func25, Tryd.ntmps25
  go_wp2
  have hB0 := Aside0.mk (kept_world o s w).1
  have hO0 := Aside0.mk (kept_world o s w).2.1
  have hZ0 := Aside0.mk (kept_world o s w).2.2.1
  have hR0 := Aside0.mk (kept_world o s w).2.2.2.1
  have hI0 := Aside0.mk (kept_world o s w).2.2.2.2
  generalize hW0 : ((((w.alloc (Obj.cells #[Value.int IntKind.i64 o.k, Value.string o.c, Value.string o.e, Value.string o.u, Value.int IntKind.i64 o.n] 23)).alloc (Obj.cells #[Value.int IntKind.i64 0, Value.string { data := #[] }, Value.string { data := #[] }, Value.string { data := #[] }, Value.int IntKind.i64 0] 23)).alloc (Obj.cells #[Value.int IntKind.i64 o.k, Value.string { data := #[] }, Value.string { data := #[] }, Value.string { data := #[] }, Value.int IntKind.i64 0] 23)).iter s 0) = W0 at *
  clear hW0
  go_loopw [7] (fun _ wr => ∃ (pos : Nat) (out : Ord), pos ≤ s.size ∧ Aside0 (out.k = o.k ∧ keptL o (s.data.toList.drop pos) out = keptO o s) ∧ wr.heap[w.heap.size + 1 + 1 + 1]? = some (.stringIter s pos) ∧ wr.heap[w.heap.size]? = some (Obj.cells #[Value.int IntKind.i64 o.k, Value.string o.c, Value.string o.e, Value.string o.u, Value.int IntKind.i64 o.n] 23) ∧ wr.heap[w.heap.size + 1]? = some (Obj.cells #[Value.int IntKind.i64 0, Value.string { data := #[] }, Value.string { data := #[] }, Value.string { data := #[] }, Value.int IntKind.i64 0] 23) ∧ wr.heap[w.heap.size + 1 + 1]? = some (.cells #[Value.int IntKind.i64 o.k, Value.string out.c, Value.string out.e, Value.string out.u, Value.int IntKind.i64 out.n] 23 (0, 0)) ∧ Aside0 (Below w.heap.size w wr))
    (fun _ wr => s.size - wr.iterPos (w.heap.size + 1 + 1 + 1))
  case atStart => exact ⟨0, ⟨o.k, ⟨#[]⟩, ⟨#[]⟩, ⟨#[]⟩, 0⟩, Nat.zero_le _, ⟨rfl, rfl⟩, hI0.out, hO0.out, hZ0.out, hR0.out, hB0⟩
  case round =>
    clear hB0 hO0 hR0 hI0 hZ0
    obtain ⟨pos, out, hps, HK, hk, hO, hZ, hR, HB⟩ := hrel
    by_cases hp : pos < s.size
    · have h128 := hascii pos hp
      have hnext : ∀ ty, (Instr.next (.pointer (some ⟨w.heap.size + 1 + 1 + 1, 0, none⟩)) true ty).run Tryd.prog wr = _ := fun ty => Lib.run_next_ascii_at wr (w.heap.size + 1 + 1 + 1) s pos ty hk hp h128
      have hk1 := Aside0.mk (Lib.iterAt_heap wr (w.heap.size + 1 + 1 + 1) s pos (pos + 1) hk)
      have hB1 := Aside0.mk (Lib.below_iterAt HB.out (show w.heap.size ≤ w.heap.size + 1 + 1 + 1 by omega) s (pos + 1))
      have hO1 := (Lib.iterAt_other wr (w.heap.size + 1 + 1 + 1) w.heap.size s (pos + 1) (by omega)).trans hO
      have hZ1 := Aside0.mk ((Lib.iterAt_other wr (w.heap.size + 1 + 1 + 1) (w.heap.size + 1) s (pos + 1) (by omega)).trans hZ)
      have hR1 := (Lib.iterAt_other wr (w.heap.size + 1 + 1 + 1) (w.heap.size + 1 + 1) s (pos + 1) (by omega)).trans hR
      have hmu : wr.iterPos (w.heap.size + 1 + 1 + 1) = pos := by simp [World.iterPos, hk]
      generalize wr.iterAt (w.heap.size + 1 + 1 + 1) s (pos + 1) = W1 at hnext hk1 hB1 hO1 hZ1 hR1
      have ho1 : W1.cell? ⟨w.heap.size, 1, none⟩ = some (.string o.c) := blk_cell hO1 1
      have ho2 : W1.cell? ⟨w.heap.size, 2, none⟩ = some (.string o.e) := blk_cell hO1 2
      have ho3 : W1.cell? ⟨w.heap.size, 3, none⟩ = some (.string o.u) := blk_cell hO1 3
      have ho4 : W1.cell? ⟨w.heap.size, 4, none⟩ = some (.int .i64 o.n) := blk_cell hO1 4
      have hr1 : W1.cell? ⟨w.heap.size + 1 + 1, 1, none⟩ = some (.string out.c) := blk_cell hR1 1
      have hr2 : W1.cell? ⟨w.heap.size + 1 + 1, 2, none⟩ = some (.string out.e) := blk_cell hR1 2
      have hr3 : W1.cell? ⟨w.heap.size + 1 + 1, 3, none⟩ = some (.string out.u) := blk_cell hR1 3
      have hr4 : W1.cell? ⟨w.heap.size + 1 + 1, 4, none⟩ = some (.int .i64 out.n) := blk_cell hR1 4
      have f1 := blk_frozen hR1 1
      have f2 := blk_frozen hR1 2
      have f3 := blk_frozen hR1 3
      have f4 := blk_frozen hR1 4
      have HD := Lib.hid (drop_byte s pos hp)
      have HKA := Aside0.mk HK.out
      have HOO := Aside0.mk hO1
      have HRR := Aside0.mk hR1
      clear hk hO hZ hR HB hO1 hR1 hps HK h128
      generalize hc : (s[pos]'hp).toNat = c at *
      by_cases h99 : (c : Int) = 99
      · go_wp2
        have hstep : putO o out c = { out with c := o.c } := by unfold putO; simp [h99]
        refine ⟨⟨pos + 1, { out with c := o.c }, hp, ⟨HKA.out.1, ?_⟩, (Below.heap_setCell _ _ _ _ (by simp)).trans hk1.out, blk_far HOO.out (by simp; omega) _, blk_far hZ1.out (by simp) _, blk_set HRR.out 1 _, ⟨hB1.out.setCell (p := ⟨w.heap.size + 1 + 1, 1, none⟩) (by simp; omega) _⟩⟩, ?_⟩
        · rw [← HKA.out.2, HD.out, keptL, hc, hstep]
        · rw [hmu, World.iterPos, (Below.heap_setCell _ _ _ _ (by simp)).trans hk1.out]; simp; omega
      by_cases h101 : (c : Int) = 101
      · go_wp2
        have hstep : putO o out c = { out with e := o.e } := by unfold putO; simp [h99, h101]
        refine ⟨⟨pos + 1, { out with e := o.e }, hp, ⟨HKA.out.1, ?_⟩, (Below.heap_setCell _ _ _ _ (by simp)).trans hk1.out, blk_far HOO.out (by simp; omega) _, blk_far hZ1.out (by simp) _, blk_set HRR.out 2 _, ⟨hB1.out.setCell (p := ⟨w.heap.size + 1 + 1, 2, none⟩) (by simp; omega) _⟩⟩, ?_⟩
        · rw [← HKA.out.2, HD.out, keptL, hc, hstep]
        · rw [hmu, World.iterPos, (Below.heap_setCell _ _ _ _ (by simp)).trans hk1.out]; simp; omega
      by_cases h117 : (c : Int) = 117
      · go_wp2
        have hstep : putO o out c = { out with u := o.u } := by unfold putO; simp [h99, h101, h117]
        refine ⟨⟨pos + 1, { out with u := o.u }, hp, ⟨HKA.out.1, ?_⟩, (Below.heap_setCell _ _ _ _ (by simp)).trans hk1.out, blk_far HOO.out (by simp; omega) _, blk_far hZ1.out (by simp) _, blk_set HRR.out 3 _, ⟨hB1.out.setCell (p := ⟨w.heap.size + 1 + 1, 3, none⟩) (by simp; omega) _⟩⟩, ?_⟩
        · rw [← HKA.out.2, HD.out, keptL, hc, hstep]
        · rw [hmu, World.iterPos, (Below.heap_setCell _ _ _ _ (by simp)).trans hk1.out]; simp; omega
      · go_wp2
        have hstep : putO o out c = { out with n := o.n } := by unfold putO; simp [h99, h101, h117]
        refine ⟨⟨pos + 1, { out with n := o.n }, hp, ⟨HKA.out.1, ?_⟩, (Below.heap_setCell _ _ _ _ (by simp)).trans hk1.out, blk_far HOO.out (by simp; omega) _, blk_far hZ1.out (by simp) _, blk_set HRR.out 4 _, ⟨hB1.out.setCell (p := ⟨w.heap.size + 1 + 1, 4, none⟩) (by simp; omega) _⟩⟩, ?_⟩
        · rw [← HKA.out.2, HD.out, keptL, hc, hstep]
        · rw [hmu, World.iterPos, (Below.heap_setCell _ _ _ _ (by simp)).trans hk1.out]; simp; omega
    · have hnext : ∀ ty, (Instr.next (.pointer (some ⟨w.heap.size + 1 + 1 + 1, 0, none⟩)) true ty).run Tryd.prog wr = _ := fun ty => Lib.run_next_end_at wr (w.heap.size + 1 + 1 + 1) s pos ty hk hp
      have hr0 : wr.cell? ⟨w.heap.size + 1 + 1, 0, none⟩ = some (.int .i64 o.k) := blk_cell hR 0
      have hr1 : wr.cell? ⟨w.heap.size + 1 + 1, 1, none⟩ = some (.string out.c) := blk_cell hR 1
      have hr2 : wr.cell? ⟨w.heap.size + 1 + 1, 2, none⟩ = some (.string out.e) := blk_cell hR 2
      have hr3 : wr.cell? ⟨w.heap.size + 1 + 1, 3, none⟩ = some (.string out.u) := blk_cell hR 3
      have hr4 : wr.cell? ⟨w.heap.size + 1 + 1, 4, none⟩ = some (.int .i64 out.n) := blk_cell hR 4
      have z0 : wr.cell? ⟨w.heap.size + 1, 0, none⟩ = some (.int .i64 0) := blk_cell hZ 0
      have z1 : wr.cell? ⟨w.heap.size + 1, 1, none⟩ = some (.string ⟨#[]⟩) := blk_cell hZ 1
      have z2 : wr.cell? ⟨w.heap.size + 1, 2, none⟩ = some (.string ⟨#[]⟩) := blk_cell hZ 2
      have z3 : wr.cell? ⟨w.heap.size + 1, 3, none⟩ = some (.string ⟨#[]⟩) := blk_cell hZ 3
      have z4 : wr.cell? ⟨w.heap.size + 1, 4, none⟩ = some (.int .i64 0) := blk_cell hZ 4
      have f0 := blk_frozen hZ 0
      have f1 := blk_frozen hZ 1
      have f2 := blk_frozen hZ 2
      have f3 := blk_frozen hZ 3
      have f4 := blk_frozen hZ 4
      have HZ := Aside0.mk hZ
      clear hk hO hR hZ
      go_wp2
      have hall : s.data.toList.drop pos = [] := List.drop_eq_nil_of_le (by rw [Array.length_toList]; show s.size ≤ pos; omega)
      have hfin : keptO o s = ⟨o.k, out.c, out.e, out.u, out.n⟩ := by
        have h2 := HK.out.2
        rw [hall] at h2
        rw [← h2, ← HK.out.1]
        rfl
      rw [hfin]
      have h5 := blk_set (blk_set (blk_set (blk_set (blk_set HZ.out 0 (.int .i64 o.k)) 1 (.string out.c)) 2 (.string out.e)) 3 (.string out.u)) 4 (.int .i64 out.n)
      exact bodyPost_ret (results_cell_row rfl _ _ (w.heap.size + 1) 23 #[.int .i64 o.k, .string out.c, .string out.e, .string out.u, .int .i64 out.n] (0, 0) _ rfl (by simpa using h5) hu rfl (by kernel_rfl)) rfl ⟨rfl, ((((HB.out.setCell (p := ⟨w.heap.size + 1, 0, none⟩) (by simp) _).setCell (p := ⟨w.heap.size + 1, 1, none⟩) (by simp) _).setCell (p := ⟨w.heap.size + 1, 2, none⟩) (by simp) _).setCell (p := ⟨w.heap.size + 1, 3, none⟩) (by simp) _).setCell (p := ⟨w.heap.size + 1, 4, none⟩) (by simp) _⟩
end Go.Proofs.YtdphomiljkclbaaDoor
