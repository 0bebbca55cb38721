/- The store's functions walk: what each leaves of a store's state. No conditions beyond those typed. -/
import Derived.Test.YtngcdkbnljoodaaGreatDoorMrgA
import Derived.Test.YtngcdkbnljoodaaGreatDoorP0
import Derived.Test.YtngcdkbnljoodaaGreatDoorWMore
import Derived.WalkSpells
import Derived.WalkLawsBesides
import Derived.Deep.RegionLaw
namespace Go.Proofs.YtngcdkbnljoodaaGreatDoor
set_option linter.unusedVariables false
set_option linter.unusedSimpArgs false
open Go.RowKit Go.Proofs.YtngcdkbnljoodaaGreatDoorW.PrintWords

def storeC (b n : Nat) (f p : Int) (d : Bool) (wr : Int) : Array Value := #[.slice (some ⟨b, 0, none⟩) n n, .int .i64 f, .int .i64 p, .bool d, .int .i64 wr]
/-- Blocks p, b are a store in the state s. -/
structure StoreIs (w : World) (p b : Nat) (s : St) : Prop where
  wf : s.Wf
  ne : p ≠ b
  head : ∃ wr : Int, w.heap[p]? = some (.cells (storeC b s.n s.fuse s.pre s.down wr) 54 (0, 0))
  row : w.heap[b]? = some (.cells (u8v s.bs).toArray 88 (0, 0))
theorem StoreIs.only {S : List Nat} {w w' : World} {p b : Nat} {s : St} (h : StoreIs w p b s) (ho : Only S w w') (h1 : p ∉ S) (h2 : b ∉ S) : StoreIs w' p b s := by
  obtain ⟨a, c, ⟨wr, d⟩, e⟩ := h
  exact ⟨a, c, ⟨wr, ho.blk d h1⟩, ho.blk e h2⟩
theorem StoreIs.drew {w : World} {p b : Nat} {s : St} (h : StoreIs w p b s) : StoreIs w.drew p b s := ⟨h.wf, h.ne, h.head, h.row⟩
theorem StoreIs.lt {w : World} {p b : Nat} {s : St} (h : StoreIs w p b s) : p < w.heap.size ∧ b < w.heap.size := by
  obtain ⟨a, c, ⟨wr, d⟩, e⟩ := h
  exact ⟨blk_lt d, blk_lt e⟩
theorem storeF {w : World} {p b n : Nat} {f q : Int} {d : Bool} {wr : Int} (h : w.heap[p]? = some (.cells (storeC b n f q d wr) 54 (0, 0))) :
    w.cell? ⟨p, 0, none⟩ = some (.slice (some ⟨b, 0, none⟩) n n) ∧ w.cell? ⟨p, 1, none⟩ = some (.int .i64 f) ∧ w.cell? ⟨p, 2, none⟩ = some (.int .i64 q) ∧ w.cell? ⟨p, 3, none⟩ = some (.bool d) ∧ w.cell? ⟨p, 4, none⟩ = some (.int .i64 wr) ∧
    w.frozen? ⟨p, 0, none⟩ = false ∧ w.frozen? ⟨p, 1, none⟩ = false ∧ w.frozen? ⟨p, 2, none⟩ = false ∧ w.frozen? ⟨p, 3, none⟩ = false ∧ w.frozen? ⟨p, 4, none⟩ = false :=
  ⟨blk_cell h 0, blk_cell h 1, blk_cell h 2, blk_cell h 3, blk_cell h 4, blk_frozen h 0, blk_frozen h 1, blk_frozen h 2, blk_frozen h 3, blk_frozen h 4⟩

set_option maxHeartbeats 1000000 in
theorem blocks_of {w : World} {p b : Nat} {s : St} (h : StoreIs w p b s) :
    Calls Tryz.prog 29 #[.pointer (some ⟨p, 0, none⟩)] w fun e w' => e = .returned (.int .i64 (s.n : Int)) ∧ w = w' := by
  obtain ⟨wf, ne, ⟨wr, hp⟩, hb⟩ := h
  obtain ⟨c0, c1, c2, c3, c4, f0, f1, f2, f3, f4⟩ := storeF hp
  clear hp hb
  go_enter Tryz.func29, Tryz.ntmps29
  go_wp2
  go_ret
  exact ⟨rfl, rfl⟩
set_option maxHeartbeats 1000000 in
theorem may_of {w : World} {p b : Nat} {s : St} (h : StoreIs w p b s) (i : Int) :
    Calls Tryz.prog 46 #[.pointer (some ⟨p, 0, none⟩), .int .i64 i] w fun e w' => e = .returned (.int .i64 (s.may i)) ∧ w = w' := by
  obtain ⟨wf, ne, ⟨wr, hp⟩, hb⟩ := h
  have hm : Hid (s.may i = if s.down = true then 16 else if i < 0 ∨ (s.n : Int) ≤ i then 3 else 0) := rfl
  obtain ⟨n, bs, fuse, pre, down⟩ := s
  obtain ⟨c0, c1, c2, c3, c4, f0, f1, f2, f3, f4⟩ := storeF hp
  clear hp hb
  dsimp only at c0 c1 c2 c3 c4 hm
  cases down
  · by_cases h1 : i < 0
    · go_enter Tryz.func46, Tryz.ntmps46
      go_wp2
      go_ret
      exact ⟨by rw [hm.out]; simp [h1], rfl⟩
    · have h1' : decide (i < 0) = false := decide_eq_false h1
      by_cases h2 : (n : Int) ≤ i
      · go_enter Tryz.func46, Tryz.ntmps46
        go_wp2
        go_ret
        exact ⟨by rw [hm.out]; simp [h2], rfl⟩
      · go_enter Tryz.func46, Tryz.ntmps46
        go_wp2
        go_ret
        exact ⟨by rw [hm.out]; simp [h1, h2], rfl⟩
  · go_enter Tryz.func46, Tryz.ntmps46
    go_wp2
    go_ret
    exact ⟨by rw [hm.out]; simp, rfl⟩
theorem storeC_set1 (b n : Nat) (f p : Int) (d : Bool) (wr f' : Int) : (storeC b n f p d wr).setIfInBounds 1 (.int .i64 f') = storeC b n f' p d wr := rfl
theorem storeC_set2 (b n : Nat) (f p : Int) (d : Bool) (wr f' : Int) : (storeC b n f p d wr).setIfInBounds 2 (.int .i64 f') = storeC b n f f' d wr := rfl
theorem storeC_set3 (b n : Nat) (f p : Int) (d : Bool) (wr : Int) (d' : Bool) : (storeC b n f p d wr).setIfInBounds 3 (.bool d') = storeC b n f p d' wr := rfl
theorem storeC_set4 (b n : Nat) (f p : Int) (d : Bool) (wr f' : Int) : (storeC b n f p d wr).setIfInBounds 4 (.int .i64 f') = storeC b n f p d f' := rfl
theorem fuse_fin {w : World} {p b : Nat} {s : St} (x y : Int) (hw : Hid ((s.setFuse x y).Wf)) (ne : p ≠ b) {wr : Int} (hp : Hid (w.heap[p]? = some (.cells (storeC b s.n s.fuse s.pre s.down wr) 54 (0, 0))))
    (hb : Hid (w.heap[b]? = some (.cells (u8v s.bs).toArray 88 (0, 0)))) (f q : Int) (hf : f = max x (-1)) (hq : q = max y 0 % 33) :
    StoreIs ((w.setCell ⟨p, 1, none⟩ (.int .i64 f)).setCell ⟨p, 2, none⟩ (.int .i64 q)) p b (s.setFuse x y) ∧ Only [p] w ((w.setCell ⟨p, 1, none⟩ (.int .i64 f)).setCell ⟨p, 2, none⟩ (.int .i64 q)) := by
  subst hf
  subst hq
  refine ⟨⟨hw.out, ne, ⟨wr, ?_⟩, ?_⟩, ((Only.refl [p] w).setCell (p := ⟨p, 1, none⟩) (Or.inl (by simp)) _).setCell (p := ⟨p, 2, none⟩) (Or.inl (by simp)) _⟩
  · have h2 := blk_set (blk_set hp.out 1 (.int .i64 (max x (-1)))) 2 (.int .i64 (max y 0 % 33))
    rw [storeC_set1, storeC_set2] at h2
    have e : ((s.setFuse x y).pre : Int) = max y 0 % 33 := by show (((max y 0 % 33).toNat : Nat) : Int) = _; omega
    rw [e]
    exact h2
  · exact blk_far (blk_far hb.out (p := ⟨p, 1, none⟩) (fun e => ne e.symm) _) (p := ⟨p, 2, none⟩) (fun e => ne e.symm) _
set_option maxHeartbeats 1000000 in
theorem fuse_of {w : World} {p b : Nat} {s : St} (h : StoreIs w p b s) (x y : Int) (hx : x ≤ 9223372036854775807) :
    Calls Tryz.prog 14 #[.pointer (some ⟨p, 0, none⟩), .int .i64 x, .int .i64 y] w fun e w' => e = .returned (.tuple #[]) ∧ StoreIs w' p b (s.setFuse x y) ∧ Only [p] w w' := by
  obtain ⟨wf, ne, ⟨wr, hp⟩, hb⟩ := h
  obtain ⟨c0, c1, c2, c3, c4, f0, f1, f2, f3, f4⟩ := storeF hp
  have HP := Lib.hid hp
  have HB := Lib.hid hb
  have HW := Lib.hid (St.setFuse_wf wf x y hx)
  clear hp hb wf
  go_enter Tryz.func14, Tryz.ntmps14
  go_wp2
  all_goals
    go_end0
    exact ⟨rfl, fuse_fin x y HW ne HP HB _ _ (by omega) (by omega)⟩
theorem up_fin {w : World} {p b : Nat} {s : St} (hw : Hid (s.up.Wf)) (ne : p ≠ b) {wr : Int} (hp : Hid (w.heap[p]? = some (.cells (storeC b s.n s.fuse s.pre s.down wr) 54 (0, 0))))
    (hb : Hid (w.heap[b]? = some (.cells (u8v s.bs).toArray 88 (0, 0)))) :
    StoreIs ((w.setCell ⟨p, 3, none⟩ (.bool false)).setCell ⟨p, 1, none⟩ (.int .i64 (-1))) p b s.up ∧ Only [p] w ((w.setCell ⟨p, 3, none⟩ (.bool false)).setCell ⟨p, 1, none⟩ (.int .i64 (-1))) := by
  refine ⟨⟨hw.out, ne, ⟨wr, ?_⟩, ?_⟩, ((Only.refl [p] w).setCell (p := ⟨p, 3, none⟩) (Or.inl (by simp)) _).setCell (p := ⟨p, 1, none⟩) (Or.inl (by simp)) _⟩
  · have h2 := blk_set (blk_set hp.out 3 (.bool false)) 1 (.int .i64 (-1))
    rw [storeC_set3, storeC_set1] at h2
    exact h2
  · exact blk_far (blk_far hb.out (p := ⟨p, 3, none⟩) (fun e => ne e.symm) _) (p := ⟨p, 1, none⟩) (fun e => ne e.symm) _
set_option maxHeartbeats 1000000 in
theorem up_of {w : World} {p b : Nat} {s : St} (h : StoreIs w p b s) :
    Calls Tryz.prog 16 #[.pointer (some ⟨p, 0, none⟩)] w fun e w' => e = .returned (.tuple #[]) ∧ StoreIs w' p b s.up ∧ Only [p] w w' := by
  obtain ⟨wf, ne, ⟨wr, hp⟩, hb⟩ := h
  obtain ⟨c0, c1, c2, c3, c4, f0, f1, f2, f3, f4⟩ := storeF hp
  have HP := Lib.hid hp
  have HB := Lib.hid hb
  have HW := Lib.hid (St.up_wf wf)
  clear hp hb wf
  go_enter Tryz.func16, Tryz.ntmps16
  go_wp2
  go_end0
  exact ⟨rfl, up_fin HW ne HP HB⟩

/-- The store's first state. -/
theorem madeCells_same (cs : Array Value) (v : Value) (n : Nat) (hpos : 0 < cs.size) (h : ∀ k, k < cs.size → cs[k]! = v) : madeCells cs n = (List.replicate n v).toArray := by
  unfold madeCells
  apply Array.ext
  · simp
  · intro i h1 h2
    simp only [Array.getElem_map, Array.getElem_range]
    rw [h _ (Nat.mod_lt _ hpos)]
    simp
theorem blockZ : (Tryz.prog.info? 88).map (fun i => (i.zero, i.size, i.bytes)) = some (some (.agg (Array.replicate 32 (.int .u8 0))), 32, 32) := by kernel_rfl
theorem u8v_zs (n : Nat) : u8v (zs n) = List.replicate n (.int .u8 0) := by unfold u8v zs; rw [List.map_replicate]; rfl
def NewPost (n : Int) (w : World) (e : Ending) (w' : World) : Prop := Below w.heap.size w w' ∧
      ((¬ (1 ≤ n ∧ n ≤ 256) ∧ e = .returned (.tuple #[.pointer none, .int .i64 1])) ∨
        ((1 ≤ n ∧ n ≤ 256) ∧ e = .returned (.tuple #[.pointer (some ⟨w.heap.size + 1, 0, none⟩), .int .i64 0]) ∧ StoreIs w' (w.heap.size + 1) w.heap.size (St.new n.toNat)))
theorem new_fin (m : Nat) (h1 : ¬ (m : Int) < 1) (h2 : ¬ (256 : Int) < m) (w : World) :
    NewPost m w (.returned (.tuple #[.pointer (some ⟨w.heap.size + 1, 0, none⟩), .int .i64 0])) ((w.alloc (.cells (u8v (zs (32 * m))).toArray 88)).alloc (.cells (storeC w.heap.size m (-1) 0 false 0) 54)) := by
  refine ⟨((Below.refl _ _).alloc (Nat.le_refl _) _).alloc (by simp) _, Or.inr ⟨by omega, rfl, St.new_wf (by omega) (by omega), by omega, ⟨0, ?_⟩, ?_⟩⟩
  · have := blk_new (w.alloc (.cells (u8v (zs (32 * m))).toArray 88)) (.cells (storeC w.heap.size m (-1) 0 false 0) 54)
    rw [World.size_alloc] at this
    exact this
  · exact blk_alloc (blk_new w _) _
set_option maxHeartbeats 1000000 in
theorem new_of (n : Int) (w : World) :
    Calls Tryz.prog 5 #[.int .i64 n] w (NewPost n w) := by
  by_cases h1 : n < 1
  · go_enter Tryz.func5, Tryz.ntmps5
    go_wp2
    go_ret2
    exact ⟨Below.refl _ _, Or.inl ⟨by omega, rfl⟩⟩
  have h1' : decide (n < 1) = false := decide_eq_false h1
  by_cases h2 : 256 < n
  · go_enter Tryz.func5, Tryz.ntmps5
    go_wp2
    go_ret2
    exact ⟨Below.refl _ _, Or.inl ⟨by omega, rfl⟩⟩
  have h2' : decide (256 < n) = false := decide_eq_false h2
  obtain ⟨m, rfl⟩ : ∃ m : Nat, n = (m : Int) := ⟨n.toNat, by omega⟩
  obtain ⟨i0, hi, hz0, hz1, hz2⟩ := info_parts blockZ
  have hmk : ∀ W : World, (Instr.makeSlice 52 (.int .i64 (m : Int)) (.int .i64 (m : Int))).run Tryz.prog W = .ok (.slice (some ⟨W.heap.size, 0, none⟩) m m) (W.alloc (.cells (u8v (zs (32 * m))).toArray 88)) := by
    intro W
    have hr := run_make (P := Tryz.prog) W 52 88 i0 _ Tryz.underlying52 hi hz0 .i64 .i64 m m (by omega) (by omega) (by rw [hz2]; omega) (by omega)
    rw [hz1, Int.toNat_natCast, madeCells_same _ (.int .u8 0) _ (by decide) (by intro k hk; have hk' : k < 32 := hk; show (Array.replicate 32 (Value.int .u8 0))[k]! = _; simp [hk']), Nat.mul_comm, ← u8v_zs] at hr
    exact hr
  go_enter Tryz.func5, Tryz.ntmps5
  go_wp2
  go_ret2
  exact new_fin m (by omega) (by omega) w

theorem u8_size : (Tryz.prog.info? 5).map (·.size) = some 1 := by kernel_rfl
theorem take_all (l : Bs) (n : Nat) (h : l.length = n) : l.take n = l := List.take_of_length_le (by omega)
/-- A 'copy' into a store's block. -/
theorem copy_blk {w : World} {b : Nat} {bs : Bs} {t : TypeId} (hb : w.heap[b]? = some (.cells (u8v bs).toArray t (0, 0))) (k : Nat) (d : ByteArray) (n : Nat) (hn : n = Nat.min d.size 32) (hk : k + 32 ≤ bs.length) :
    ∃ w1, (Builtin.copy_ #[86, 9] 3 #[.slice (some ⟨b, k, none⟩) 32 32, .string d]).run Tryz.prog w = .ok (goInt n) w1 ∧
      w1.heap[b]? = some (.cells (u8v (splice bs k (d.data.toList.take n))).toArray t (0, 0)) ∧ Only [b] w w1 := by
  have h32 : Nat.min d.size 32 ≤ 32 := Nat.min_le_right _ _
  have hr := run_copy_string (P := Tryz.prog) w 86 9 3 5 b k 32 32 n d (u8v bs) t Tryz.underlying86 u8_size hb hn (by rw [u8v_length]; omega)
  rw [u8v_splice] at hr
  exact ⟨_, hr, setRow_heap w b _ _ t _ hb, (Only.refl [b] w).setRow (Or.inl (by simp)) _⟩
theorem write_fin {w w1 : World} {p b : Nat} {s : St} (hw : s.Wf) (ne : p ≠ b) {wr f : Int} {bs : Bs} (hf : -1 ≤ f) (hf2 : f ≤ 9223372036854775807) (hp : w.heap[p]? = some (.cells (storeC b s.n s.fuse s.pre s.down wr) 54 (0, 0)))
    (hb1 : w1.heap[b]? = some (.cells (u8v bs).toArray 88 (0, 0))) (hl : bs.length = s.bs.length) (ho : Only [b] (w.setCell ⟨p, 1, none⟩ (.int .i64 f)) w1) (x : Int) :
    StoreIs (w1.setCell ⟨p, 4, none⟩ (.int .i64 x)) p b { s with bs := bs, fuse := f } ∧ Only [p, b] w (w1.setCell ⟨p, 4, none⟩ (.int .i64 x)) := by
  have h2 := blk_set hp 1 (.int .i64 f)
  rw [storeC_set1] at h2
  have h3 := ho.blk h2 (by simpa using ne)
  have h4 := blk_set h3 4 (.int .i64 x)
  rw [storeC_set4] at h4
  refine ⟨⟨⟨by show bs.length = _; rw [hl, hw.len], hw.pre, hf, hf2, hw.lo, hw.hi⟩, ne, ⟨x, h4⟩, blk_far hb1 (p := ⟨p, 4, none⟩) (fun e => ne e.symm) _⟩, ?_⟩
  exact (((Only.refl [p, b] w).setCell (p := ⟨p, 1, none⟩) (Or.inl (by simp)) _).tr (ho.mono (by simp))).setCell (p := ⟨p, 4, none⟩) (Or.inl (by simp)) _
set_option maxHeartbeats 2000000 in
set_option maxRecDepth 100000 in
theorem write_go {w : World} {p b : Nat} {s : St} (h : StoreIs w p b s) (i : Nat) (hi : i < s.n) (d : ByteArray) (hd : (d.size : Int) = 32) (hm : s.may (i : Int) = 0) (f : Int) (hf : f = max (s.fuse - 1) (-1)) (hf0 : s.fuse ≠ 0) :
    Calls Tryz.prog 18 #[.pointer (some ⟨p, 0, none⟩), .int .i64 (i : Int), .string d] w fun e w' => e = .returned (.int .i64 0) ∧
      StoreIs w' p b { s with bs := splice s.bs (32 * i) d.data.toList, fuse := f } ∧ Only [p, b] w w' := by
  have hmay := may_of h (i : Int)
  rw [hm] at hmay
  have HM := Lib.hid hmay
  obtain ⟨wf, ne, ⟨wr, hp⟩, hb⟩ := h
  obtain ⟨c0, c1, c2, c3, c4, f0, f1, f2, f3, f4⟩ := storeF hp
  have hfh := wf.top
  have hfl := wf.fuse
  have hn := wf.hi
  have hlen := wf.len
  have hds : d.data.toList.length = 32 := by show d.size = 32; omega
  obtain ⟨w1, hr, hb1, ho⟩ := copy_blk (blk_far hb (p := ⟨p, 1, none⟩) (fun e => ne e.symm) (.int .i64 f)) (i * 32) d 32 (by rw [show d.size = 32 by omega]; rfl) (by omega)
  rw [take_all _ _ hds, Nat.mul_comm i 32] at hb1
  have hfin := write_fin wf ne (by omega) (by omega) hp hb1 (splice_length _ _ _ (by omega)) ho
  have h3 := ho.blk (blk_set hp 1 (.int .i64 f)) (by simpa using ne)
  rw [storeC_set1] at h3
  have e4 : w1.cell? ⟨p, 4, none⟩ = some (.int .i64 wr) := blk_cell h3 4
  have g4 : w1.frozen? ⟨p, 4, none⟩ = false := blk_frozen h3 4
  have HF := Lib.hid hfin
  clear hp hb hmay hm hfin hb1 ho h3 hlen hds
  by_cases h1 : 1 ≤ s.fuse
  · obtain rfl : f = s.fuse - 1 := by omega
    clear hf
    go_enter Tryz.func18, Tryz.ntmps18
    go_wp2_with (go_at_call 46; refine HM.out.mono ?_; rintro e w' ⟨rfl, rfl⟩)
    go_ret
    exact ⟨rfl, HF.out _⟩
  · obtain rfl : f = -1 := by omega
    have hfe : s.fuse = -1 := by omega
    clear hf
    go_enter Tryz.func18, Tryz.ntmps18
    go_wp2_with (go_at_call 46; refine HM.out.mono ?_; rintro e w' ⟨rfl, rfl⟩)
    go_ret
    exact ⟨rfl, HF.out _⟩
theorem torn_fin {w w1 : World} {p b : Nat} {s : St} (hw : s.Wf) (ne : p ≠ b) {wr : Int} {bs : Bs} (hp : w.heap[p]? = some (.cells (storeC b s.n s.fuse s.pre s.down wr) 54 (0, 0)))
    (hb1 : w1.heap[b]? = some (.cells (u8v bs).toArray 88 (0, 0))) (hl : bs.length = s.bs.length) (ho : Only [b] w w1) :
    StoreIs ((w1.setCell ⟨p, 3, none⟩ (.bool true)).setCell ⟨p, 1, none⟩ (.int .i64 (-1))) p b { s with bs := bs, down := true, fuse := -1 } ∧ Only [p, b] w ((w1.setCell ⟨p, 3, none⟩ (.bool true)).setCell ⟨p, 1, none⟩ (.int .i64 (-1))) := by
  have h3 := ho.blk hp (by simpa using ne)
  have h4 := blk_set (blk_set h3 3 (.bool true)) 1 (.int .i64 (-1))
  rw [storeC_set3, storeC_set1] at h4
  refine ⟨⟨⟨by show bs.length = _; rw [hl, hw.len], hw.pre, by show (-1 : Int) ≤ -1; decide, by show (-1 : Int) ≤ 9223372036854775807; decide, hw.lo, hw.hi⟩, ne, ⟨wr, h4⟩, blk_far (blk_far hb1 (p := ⟨p, 3, none⟩) (fun e => ne e.symm) _) (p := ⟨p, 1, none⟩) (fun e => ne e.symm) _⟩, ?_⟩
  exact ((ho.mono (T := [p, b]) (by simp)).setCell (p := ⟨p, 3, none⟩) (Or.inl (by simp)) _).setCell (p := ⟨p, 1, none⟩) (Or.inl (by simp)) _
set_option maxHeartbeats 2000000 in
set_option maxRecDepth 100000 in
theorem write_torn {w : World} {p b : Nat} {s : St} (h : StoreIs w p b s) (i : Nat) (hi : i < s.n) (d : ByteArray) (hd : (d.size : Int) = 32) (hm : s.may (i : Int) = 0) (hf0 : s.fuse = 0) :
    Calls Tryz.prog 18 #[.pointer (some ⟨p, 0, none⟩), .int .i64 (i : Int), .string d] w fun e w' => e = .returned (.int .i64 16) ∧
      StoreIs w' p b { s with bs := splice s.bs (32 * i) (d.data.toList.take s.pre), down := true, fuse := -1 } ∧ Only [p, b] w w' := by
  have hmay := may_of h (i : Int)
  rw [hm] at hmay
  have HM := Lib.hid hmay
  obtain ⟨wf, ne, ⟨wr, hp⟩, hb⟩ := h
  obtain ⟨c0, c1, c2, c3, c4, f0, f1, f2, f3, f4⟩ := storeF hp
  have hn := wf.hi
  have hpre := wf.pre
  have hlen := wf.len
  have hpi : (s.pre : Int) ≤ 32 := by omega
  have hz : (s.fuse == 0) = true := by rw [hf0]; rfl
  have hsz : d.size = 32 := by omega
  have hex : (d.extract 0 s.pre).data.toList = d.data.toList.take s.pre := by simp [ByteArray.data_extract]
  have hexl : (d.extract 0 s.pre).size = s.pre := by rw [ByteArray.size_extract]; omega
  obtain ⟨w1, hr, hb1, ho⟩ := copy_blk (w := w.drew) hb (i * 32) (d.extract 0 s.pre) s.pre (by rw [hexl]; exact (Nat.min_eq_left hpre).symm) (by omega)
  rw [hex, List.take_of_length_le (by rw [List.length_take]; omega), Nat.mul_comm i 32] at hb1
  have hfin := torn_fin wf ne hp hb1 (splice_length _ _ _ (by rw [List.length_take]; omega)) (show Only [b] w w1 from ⟨ho.os, ho.tape, ho.output, ho.size, ho.block⟩)
  have h3 := ho.blk (show w.drew.heap[p]? = _ from hp) (by simpa using ne)
  obtain ⟨d0, d1, d2, d3, d4, g0, g1, g2, g3, g4⟩ := storeF h3
  have HF := Lib.hid hfin
  clear hp hb hmay hm hf0 hfin hb1 ho h3 hlen hsz hex hexl
  go_enter Tryz.func18, Tryz.ntmps18
  go_wp2_with (go_at_call 46; refine HM.out.mono ?_; rintro e w' ⟨rfl, rfl⟩)
  go_region
  all_goals
    go_wp2
    go_ret
    exact ⟨rfl, HF.out⟩
end Go.Proofs.YtngcdkbnljoodaaGreatDoor

