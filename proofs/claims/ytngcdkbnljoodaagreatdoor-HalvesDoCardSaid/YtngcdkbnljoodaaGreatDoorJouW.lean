/- A builder's Write of a row of bytes; the store's Write, whole; all bytes of a store. No conditions beyond those typed. -/
import Derived.Test.YtngcdkbnljoodaaGreatDoorJouS
import Derived.Test.YtngcdkbnljoodaaGreatDoorBld
import Derived.Test.YtngcdkbnljoodaaGreatDoorShelf
namespace Go.Proofs.YtngcdkbnljoodaaGreatDoor
set_option linter.unusedVariables false
set_option linter.unusedSimpArgs false
open Go.RowKit Go.Proofs.YtngcdkbnljoodaaGreatDoorW.PrintWords

theorem bld_alloc {T e B b : Nat} {bs : List Value} {w : World} (h : Lib.IsBuilder T e B b bs w) (o : Obj) : Lib.IsBuilder T e B b bs (w.alloc o) := by
  have key : ∀ p, Lib.BuilderAt T e B b p bs w → Lib.BuilderAt T e B b p bs (w.alloc o) := by
    rintro p ⟨hB, v, hb, hown, hne⟩
    exact ⟨hB, v, blk_alloc hb o, hown.alloc _, hne⟩
  exact h.imp (key _) (key _)
theorem bld_lt {T e B b : Nat} {bs : List Value} {w : World} (h : Lib.IsBuilder T e B b bs w) : b < w.heap.size := by
  rcases h with h | h
  · exact h.lt
  · exact h.lt
theorem u8v_cell {w : World} {g : Nat} {t : TypeId} {l : Bs} (hg : w.heap[g]? = some (.cells (u8v l).toArray t (0, 0))) {o j : Nat} {u : Value} (h : (u8v (l.drop o))[j]? = some u) : w.cell? ((⟨g, o, none⟩ : Addr).add j) = some u := by
  rw [show ((⟨g, o, none⟩ : Addr).add j) = ⟨g, o + j, none⟩ from by unfold Addr.add; split <;> simp_all]
  rw [blk_cell hg, List.getElem?_toArray, ← h, ← u8v_drop, List.getElem?_drop]

set_option maxHeartbeats 2000000 in
set_option maxRecDepth 100000 in
theorem bld_Write (B b g : Nat) (bs l : Bs) (m c : Nat) (hm : l.length = m) (tg : TypeId) (w : World) (h : Lib.IsBuilder 93 5 B b (u8v bs) w) (hg : w.heap[g]? = some (.cells (u8v l).toArray tg (0, 0))) (hgb : g ≠ b)
    (hlen : bs.length + l.length ≤ 140737488355328) (hBw : B ≤ w.heap.size) :
    Calls Tryz.prog 48 #[.pointer (some ⟨b, 0, none⟩), .slice (some ⟨g, 0, none⟩) m c] w fun e w' => e = .returned (.tuple #[.int .i64 m, .nilIface]) ∧
      Lib.IsBuilder 93 5 B b (u8v (bs ++ l)) w' ∧ Below B w w' := by
  obtain ⟨i0, hi, hz0, hz1, hz2⟩ := info_parts bld_info
  have hu := Tryz.underlying93
  subst hm
  go_enter Tryz.func48, Tryz.ntmps48
  go_wp2_with (go_at_call 69; refine (copyCheck_any B b (u8v bs) _ h).mono ?_)
  rintro e w1 ⟨rfl, h1, hb1, hg1⟩
  have hgw : w1.heap[g]? = some (.cells (u8v l).toArray tg (0, 0)) := (hg1.block g (blk_lt hg) (by simpa using hgb)).trans hg
  have HG := Lib.hid hgw
  clear hgw hg1
  obtain ⟨hB, v, hbk, hown, hne⟩ := h1
  have c1 : w1.cell? ⟨b, 1, none⟩ = some v := by rw [Lib.cell_of_heap hbk]; rfl
  go_wp2_with (at_builtin; refine wpList_append_own _ rfl _ _ 86 rfl B 5 i0 (.int .u8 0) 1 1 Tryz.underlying86 hi hz0 hz1 hz2 rfl (by decide) _ _ _ rfl hown ⟨g, 0, none⟩ l.length c (u8v l) rfl ?c0 ?c1 ?c2 ?c3 ?c4 ?c5 ?_)
  case c0 => rw [u8v_length, Nat.mul_one]
  case c1 => intro j u hj; exact u8v_cell HG.out (o := 0) (by simpa using hj)
  case c2 => exact u8v_one l
  case c3 => rw [u8v_length]; unfold maxLen; omega
  case c4 => rw [u8v_length]; omega
  case c5 => have := hb1.size; omega
  intro v' w2 hown' hgrow _
  have hb2 : w2.heap[b]? = some (.cells #[.pointer (some ⟨b, 0, none⟩), v] 93 (0, 0)) := by
    rw [hgrow.block b (blk_lt hbk) (fun e => hne e.symm)]
    exact hbk
  have d0 : w2.cell? ⟨b, 0, none⟩ = some (.pointer (some ⟨b, 0, none⟩)) := by rw [Lib.cell_of_heap hb2]; rfl
  have d1 : w2.cell? ⟨b, 1, none⟩ = some v := by rw [Lib.cell_of_heap hb2]; rfl
  have f1 : w2.frozen? ⟨b, 1, none⟩ = false := Lib.frozen_of_heap hb2 1
  have HO := Lib.hid hown
  have HGr := Lib.hid hgrow
  obtain ⟨ao, n', cap, rfl⟩ : ∃ ao n' cap, v' = .slice ao n' cap := by
    rcases hown'.2 with ⟨hv, _⟩ | ⟨g, cap, cur, hv, _⟩
    · exact ⟨_, _, _, hv⟩
    · exact ⟨_, _, _, hv⟩
  have HO2 := Lib.hid hown'
  clear hown' hown hgrow
  go_wp2
  go_ret2
  refine ⟨rfl, Or.inr ?_, ?_⟩
  · exact Lib.BuilderAt.put (T := 93) (e := 5) hB hb2 (bs' := u8v (bs ++ l)) (by have := HO2.out; rw [u8v_append, List.length_append, u8v_length l]; exact this) (by decide)
  · exact (hb1.grown HGr.out (by have := hb1.size; omega) (fun k hk => (HO.out.lt k hk).1)).setCell (p := ⟨b, 1, none⟩) hB _

set_option maxHeartbeats 2000000 in
set_option maxRecDepth 100000 in
theorem write_no {w : World} {p b : Nat} {s : St} (h : StoreIs w p b s) (i : Int) (d : ByteArray) (k : Int) (hm : s.may i = k) (hk : (k != 0) = true) :
    Calls Tryz.prog 18 #[.pointer (some ⟨p, 0, none⟩), .int .i64 i, .string d] w fun e w' => e = .returned (.int .i64 k) ∧ w = w' := by
  have hmay := may_of h i
  rw [hm] at hmay
  have HM := Lib.hid hmay
  clear hmay hm
  go_enter Tryz.func18, Tryz.ntmps18
  go_wp2_with (go_at_call 46; refine HM.out.mono ?_; rintro e w' ⟨rfl, rfl⟩)
  go_ret
  exact ⟨rfl, rfl⟩
set_option maxHeartbeats 2000000 in
set_option maxRecDepth 100000 in
theorem write_arg {w : World} {p b : Nat} {s : St} (h : StoreIs w p b s) (i : Int) (d : ByteArray) (hm : s.may i = 0) (hk : ((d.size : Int) != 32) = true) :
    Calls Tryz.prog 18 #[.pointer (some ⟨p, 0, none⟩), .int .i64 i, .string d] w fun e w' => e = .returned (.int .i64 1) ∧ w = w' := by
  have hmay := may_of h i
  rw [hm] at hmay
  have HM := Lib.hid hmay
  clear hmay hm
  go_enter Tryz.func18, Tryz.ntmps18
  go_wp2_with (go_at_call 46; refine HM.out.mono ?_; rintro e w' ⟨rfl, rfl⟩)
  go_ret
  exact ⟨rfl, rfl⟩
theorem write_of {w : World} {p b : Nat} {s : St} (h : StoreIs w p b s) (i : Int) (d : ByteArray) :
    Calls Tryz.prog 18 #[.pointer (some ⟨p, 0, none⟩), .int .i64 i, .string d] w fun e w' => e = .returned (.int .i64 (s.write i d.data.toList).2) ∧
      StoreIs w' p b (s.write i d.data.toList).1 ∧ Only [p, b] w w' := by
  have hds : d.data.toList.length = d.size := rfl
  unfold St.write
  rcases s.may_cases i with ⟨h1, h2⟩ | ⟨h1, h2, h3⟩ | ⟨h1, h2, h3, h4⟩
  · rw [if_pos (by rw [h1]; decide)]
    refine (write_no h i d 16 h1 (by decide)).mono ?_
    rintro e w' ⟨rfl, rfl⟩
    exact ⟨by rw [h1], h, Only.refl _ _⟩
  · rw [if_pos (by rw [h1]; decide)]
    refine (write_no h i d 3 h1 (by decide)).mono ?_
    rintro e w' ⟨rfl, rfl⟩
    exact ⟨by rw [h1], h, Only.refl _ _⟩
  · rw [if_neg (by rw [h1]; decide)]
    obtain ⟨k, rfl⟩ : ∃ k : Nat, i = (k : Int) := ⟨i.toNat, by omega⟩
    rw [Int.toNat_natCast]
    by_cases h5 : d.data.toList.length ≠ 32
    · rw [if_pos h5]
      refine (write_arg h _ d h1 (by rw [bne_iff_ne]; omega)).mono ?_
      rintro e w' ⟨rfl, rfl⟩
      exact ⟨rfl, h, Only.refl _ _⟩
    · rw [if_neg h5]
      by_cases h6 : s.fuse = 0
      · rw [if_pos h6]
        exact write_torn h k (by omega) d (by omega) h1 h6
      · rw [if_neg h6]
        exact write_go h k (by omega) d (by omega) h1 _ rfl h6

theorem blk_size : (Tryz.prog.info? 88).map (·.size) = some 32 := by kernel_rfl
/-- A block read whole, as a value. -/
theorem blk_part (bs : Bs) (k : Nat) : ((u8v bs).drop (32 * k)).take 32 = u8v (blk bs k) := by rw [u8v_drop, u8v_take]; rfl
theorem blks_step (bs : Bs) (k : Nat) : bs.take (32 * (k + 1)) = bs.take (32 * k) ++ blk bs k := by rw [show 32 * (k + 1) = 32 * k + 32 by omega, take_split]; rfl
set_option maxHeartbeats 4000000 in
set_option maxRecDepth 100000 in
theorem bytes_of {w : World} {p b : Nat} {s : St} (h : StoreIs w p b s) :
    Calls Tryz.prog 21 #[.pointer (some ⟨p, 0, none⟩)] w fun e w' => e = .returned (.string (mkS s.bs)) ∧ Below w.heap.size w w' := by
  obtain ⟨wf, ne, ⟨wr, hp⟩, hb⟩ := h
  obtain ⟨c0, c1, c2, c3, c4, f0, f1, f2, f3, f4⟩ := storeF hp
  have hn := wf.hi
  have hlen := wf.len
  have hlb := blk_lt hb
  have hlp := blk_lt hp
  have HB := Lib.hid hb
  clear hp hb c1 c2 c3 c4 f0 f1 f2 f3 f4
  go_enter Tryz.func21, Tryz.ntmps21
  go_wp2
  go_loopw [11] (fun i wr => ∃ k : Nat, k ≤ s.n ∧ i = .int .i64 k ∧ Lib.IsBuilder 93 5 w.heap.size w.heap.size (u8v (s.bs.take (32 * k))) wr ∧ Below w.heap.size w wr) (fun i _ => s.n - (intOf i).toNat)
  case atStart => exact ⟨0, Nat.zero_le _, rfl, Lib.fresh_isBuilder _ _ _, (Below.refl _ _).alloc (Nat.le_refl _) _⟩
  case round =>
    obtain ⟨k, hk, rfl, hbl, hbw⟩ := hrel
    by_cases hkn : k < s.n
    · have hrow := (hbw.block b hlb).trans HB.out
      have hseg : ∀ (j : Nat) (v : Value), (u8v (blk s.bs k))[j]? = some v → wr.cell? ⟨b, k * 32 + j, none⟩ = some v := by
        intro j v hj
        rw [blk_cell hrow, List.getElem?_toArray, ← hj, ← blk_part, List.getElem?_take, List.getElem?_drop, Nat.mul_comm k 32]
        rw [if_pos]
        have := (List.getElem?_eq_some_iff.1 hj).1
        rw [u8v_length, blk_length s.bs s.n k hlen hkn] at this
        exact this
      have hbl32 := blk_length s.bs s.n k hlen hkn
      have hsz : (Tryz.prog.info? 88).map (·.size) = some (u8v (blk s.bs k)).length := by rw [u8v_length, hbl32]; exact blk_size
      obtain ⟨V, hV⟩ : ∃ V, V = u8v (blk s.bs k) := ⟨_, rfl⟩
      rw [← hV] at hseg hsz
      have HS := Lib.hid hseg
      have H32 : Hid (32 = V.toArray.size) := by show 32 = V.length; rw [hV, u8v_length, hbl32]
      have H1 : Hid (V.toArray.all (·.oneCell') = true) := by show _ = true; rw [List.all_toArray, List.all_eq_true, hV]; exact u8v_one _
      have HV := Lib.hid hV
      have HZ := Lib.hid hsz
      have HL := Lib.hid hbl32
      have HR := Lib.hid hrow
      have HBl := Lib.hid hbl
      have hkb : k ≤ 256 := by omega
      clear hrow hbl hseg hV hsz hbl32 hlen
      go_wp2_with (first | (with_reducible refine wpList_load_seg rfl 88 (.tmp 13) rfl b (k * 32) rfl V _ HS.out Tryz.underlying88 rfl HZ.out ?_) | ((refine wpList_store_new rfl 88 (.tmp 5) (.tmp 14) rfl rfl rfl _ V.toArray rfl HZ.out ?_ H1.out ?_); exact H32.out) | fail)
      refine (bld_Write w.heap.size w.heap.size wr.heap.size (s.bs.take (32 * k)) (blk s.bs k) 32 32 HL.out 88 _ (bld_alloc HBl.out _) ?_ ?_ ?_ ?_).mono ?_
      · rw [HV.out]; exact blk_new wr _
      · have := hbw.size; have := HBl.out; exact fun e => absurd (bld_lt HBl.out) (by omega)
      · rw [List.length_take, HL.out]; omega
      · have := hbw.size; simp; omega
      rintro e w2 ⟨rfl, hb2, hbel⟩
      rw [← blks_step] at hb2
      have HB2 := Lib.hid hb2
      have hbw2 : Below w.heap.size w w2 := (hbw.alloc hbw.size _).trans hbel
      clear hb2 hbel hbw HS H32 H1 HV HZ HL HR HBl
      go_wp2
      go_roundw
      case rel => exact ⟨k + 1, by omega, by go_num, HB2.out, hbw2⟩
      case measure => simp [intOf]; omega
    · obtain rfl : k = s.n := by omega
      have HBl := Lib.hid hbl
      clear hbl
      go_wp2_with (go_at_call 49; refine (Tryz.Builder_String_any w.heap.size w.heap.size (s.bs.take (32 * s.n)) _ HBl.out hbw.size).mono ?_; rintro e w2 ⟨rfl, hb2⟩)
      go_ret
      exact ⟨by rw [List.take_of_length_le (by omega)]; rfl, hbw.trans hb2⟩
end Go.Proofs.YtngcdkbnljoodaaGreatDoor

