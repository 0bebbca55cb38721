/- The log's functions walk: sums, frames, scans. No conditions beyond those typed. -/
import Derived.Test.YtngcdkbnljoodaaGreatDoorJouS
import Derived.Test.YtngcdkbnljoodaaGreatDoorP0
import Derived.Test.YtngcdkbnljoodaaGreatDoorWMore
import Derived.Test.YtngcdkbnljoodaaGreatDoorKit
import Derived.WalkSpells
import Derived.WalkLawsBesides
import Derived.Laws.BitsAllLaws
import Derived.Lib.ConvBytes
import Derived.Laws.IdiomStrings
namespace Go.Proofs.YtngcdkbnljoodaaGreatDoor
set_option linter.unusedVariables false
set_option linter.unusedSimpArgs false
open Go.RowKit Go.Proofs.YtngcdkbnljoodaaGreatDoorW.PrintWords

theorem crcBit_bits (v : Nat) (hv : v < 4294967296) : bits .xor .u32 ((v : Int) / 2) (3988292384 * bits .and .u32 (v : Int) 1 % 4294967296) = ((crcBit v : Nat) : Int) := by
  have h1 : bits .and .u32 (v : Int) 1 = ((v % 2 : Nat) : Int) := by
    have h := u32_and_nat v 1 hv (by omega)
    rw [Nat.and_one_is_mod] at h
    exact h
  rw [h1]
  unfold crcBit
  rcases Nat.mod_two_eq_zero_or_one v with h2 | h2
  · rw [h2, if_neg (by decide)]
    exact u32_xor_nat (v / 2) 0 (by omega) (by omega)
  · rw [h2, if_pos rfl]
    exact u32_xor_nat (v / 2) 3988292384 (by omega) (by omega)
set_option maxHeartbeats 1000000 in
theorem step_of {w : World} {q n : Nat} (hn : n < 4294967296) (c : UInt8) (hq : w.heap[q]? = some (.cells #[.int .u32 (n : Int)] 127 (0, 0))) :
    Calls Tryz.prog 92 #[.int .u8 (c.toNat : Int), .pointer (some ⟨q, 0, none⟩)] w fun e w' => e = .returned (.tuple #[]) ∧
      w'.heap[q]? = some (.cells #[.int .u32 (crcByte n c : Nat)] 127 (0, 0)) ∧ Only [q] w w' := by
  have c0 : w.cell? ⟨q, 0, none⟩ = some (.int .u32 (n : Int)) := blk_cell hq 0
  have f0 : w.frozen? ⟨q, 0, none⟩ = false := blk_frozen hq 0
  have hc := c.toNat_lt
  obtain ⟨m, hm⟩ : ∃ m, m = n ^^^ c.toNat := ⟨_, rfl⟩
  have hm32 : m < 4294967296 := by rw [hm]; exact Nat.xor_lt_two_pow (n := 32) hn (by omega)
  have hx : bits .xor .u32 (n : Int) (c.toNat : Int) = (m : Int) := by rw [hm]; exact u32_xor_nat n c.toNat hn (by omega)
  have HM : Hid (crcByte n c = crcIt 8 m) := by rw [hm]; rfl
  have HQ := Lib.hid hq
  clear hq hm
  go_enter Tryz.func92, Tryz.ntmps92
  go_wp2
  go_loopw [8] (fun i wr => ∃ k : Nat, k ≤ 8 ∧ i = .int .i64 k ∧ wr.heap[q]? = some (.cells #[.int .u32 (crcIt k m : Nat)] 127 (0, 0)) ∧ Only [q] w wr) (fun i _ => 8 - (intOf i).toNat)
  case atStart => exact ⟨0, by omega, rfl, blk_set HQ.out 0 (.int .u32 (m : Int)), (Only.refl _ _).setCell (p := ⟨q, 0, none⟩) (Or.inl (by simp)) _⟩
  case round =>
    obtain ⟨k, hk, rfl, hq, ho⟩ := hrel
    by_cases hk8 : k < 8
    · have hv := crcIt_lt k hm32
      have e1 : wr.cell? ⟨q, 0, none⟩ = some (.int .u32 (crcIt k m : Nat)) := blk_cell hq 0
      have g1 : wr.frozen? ⟨q, 0, none⟩ = false := blk_frozen hq 0
      have hs := crcIt_succ k m
      generalize crcIt k m = v at *
      have HS := Lib.hid hs
      have HQ2 := Lib.hid hq
      have HO := Lib.hid ho
      have HX := Lib.hid (crcBit_bits v hv)
      clear hs hq ho c0 f0 hx
      go_wp2
      go_roundw
      case rel => exact ⟨k + 1, by omega, by go_num, by rw [HX.out, HS.out]; exact blk_set HQ2.out 0 (.int .u32 (crcBit v : Nat)), HO.out.setCell (p := ⟨q, 0, none⟩) (Or.inl (by simp)) _⟩
      case measure => simp [intOf]; omega
    · obtain rfl : k = 8 := by omega
      have HQ2 := Lib.hid hq
      have HO := Lib.hid ho
      clear hq ho
      go_wp2
      go_end0
      exact ⟨rfl, by rw [HM.out]; exact HQ2.out, HO.out⟩

/-- '[]byte(s)': a new block; its cells; what was there is as it was. -/
theorem conv_bytes (s : ByteArray) (W : World) : ∃ (cap : Nat) (W2 : World), (convert 9 86 (.string s)).run Tryz.prog W = .ok (.slice (some ⟨W.heap.size, 0, none⟩) s.size cap) W2 ∧
    (∀ j, j < s.size → W2.cell? ⟨W.heap.size, j, none⟩ = some (.int .u8 ((s.data.toList.getD j 0).toNat : Int))) ∧ Below W.heap.size W W2 ∧ W2.heap.size = W.heap.size + 1 := by
  refine ⟨_, _, Lib.run_convert_string_bytes (P := Tryz.prog) W 9 86 5 s Tryz.underlying9 Tryz.underlying86 Tryz.underlying5, ?_, ?_, ?_⟩
  · intro j hj
    exact Lib.bytesWorld_cell W _ s j hj
  · exact ⟨rfl, rfl, rfl, by rw [Lib.bytesWorld_size]; omega, fun k hk => Lib.bytesWorld_at_old W _ s k hk⟩
  · exact Lib.bytesWorld_size W _ s
theorem ones32 (b : Nat) (hb : b < 2 ^ 32) : (2 ^ 32 - 1) ^^^ b = 2 ^ 32 - 1 - b := by
  apply Nat.eq_of_testBit_eq
  intro i
  rw [Nat.testBit_xor, Nat.testBit_two_pow_sub_one, show 2 ^ 32 - 1 - b = 2 ^ 32 - (b + 1) by omega, Nat.testBit_two_pow_sub_succ hb]
  by_cases hi : i < 32
  · simp [hi]
  · have : b.testBit i = false := Nat.testBit_lt_two_pow (Nat.lt_of_lt_of_le hb (Nat.pow_le_pow_right (by decide) (by omega)))
    simp [hi, this]
theorem bnot32 (n : Nat) (h : n < 4294967296) : bits .xor .u32 IntKind.u32.max (n : Int) = ((4294967295 - n : Nat) : Int) := by
  have h1 : 4294967295 ^^^ n = 4294967295 - n := ones32 n h
  rw [← h1]
  exact u32_xor_nat 4294967295 n (by omega) h
theorem fold_step (l : Bs) (k : Nat) (hk : k < l.length) : crcFold (l.take (k + 1)) = crcByte (crcFold (l.take k)) (l.getD k 0) := by
  rw [List.take_add_one, List.getD_eq_getElem?_getD, List.getElem?_eq_getElem hk]
  exact crcFold_snoc _ _
set_option maxHeartbeats 2000000 in
set_option maxRecDepth 100000 in
theorem Sum_of (s : ByteArray) (hs : s.size ≤ 140737488355328) (w : World) :
    Calls Tryz.prog 81 #[.string s] w fun e w' => e = .returned (.int .u32 (crc s.data.toList : Nat)) ∧ Below w.heap.size w w' := by
  obtain ⟨cap, w2, hr, hcell, hbel, hsz⟩ := conv_bytes s (w.alloc (.cells #[.int .u32 4294967295] 127))
  have hcell' : ∀ j, j < s.size → w2.cell? ⟨w.heap.size + 1, j, none⟩ = some (.int .u8 ((s.data.toList.getD j 0).toNat : Int)) := by
    intro j hj
    have := hcell j hj
    rwa [World.size_alloc] at this
  have hq : w2.heap[w.heap.size]? = some (.cells #[.int .u32 4294967295] 127 (0, 0)) := by
    rw [hbel.block w.heap.size (by simp)]
    exact blk_new w _
  have hb : Below w.heap.size w w2 := ((Below.refl _ _).alloc (Nat.le_refl _) _).trans (hbel.mono (by simp))
  rw [World.size_alloc] at hr hsz
  have HC := Lib.hid hcell'
  have HQ := Lib.hid hq
  have HB := Lib.hid hb
  have HZ := Lib.hid hsz
  clear hcell hcell' hq hb hsz hbel
  go_enter Tryz.func81, Tryz.ntmps81
  go_wp2
  go_loopw [11] (fun i wr => ∃ k : Nat, k ≤ s.size ∧ i = .int .i64 k ∧ wr.heap[w.heap.size]? = some (.cells #[.int .u32 (crcFold (s.data.toList.take k) : Nat)] 127 (0, 0)) ∧ Only [w.heap.size] w2 wr) (fun i _ => s.size - (intOf i).toNat)
  case atStart => exact ⟨0, Nat.zero_le _, rfl, HQ.out, Only.refl _ _⟩
  case round =>
    obtain ⟨k, hk, rfl, hq, ho⟩ := hrel
    by_cases hks : k < s.size
    · have hc : wr.cell? ⟨w.heap.size + 1, k, none⟩ = some (.int .u8 ((s.data.toList.getD k 0).toNat : Int)) := by
        have h1 := HC.out k hks
        rw [← h1]
        exact World.cell?_of_block (ho.block (w.heap.size + 1) (by have := HZ.out; omega) (by simp))
      have hst := step_of (crcFold_lt (s.data.toList.take k)) (s.data.toList.getD k 0) hq
      rw [← fold_step _ _ (show k < s.data.toList.length from hks)] at hst
      have HST := Lib.hid hst
      have HO := Lib.hid ho
      have hcb := (s.data.toList.getD k 0).toNat_lt
      generalize s.data.toList.getD k 0 = c at *
      clear hst hq ho
      go_wp2_with (go_at_call 92; refine HST.out.mono ?_; rintro e w3 ⟨rfl, hq3, ho3⟩)
      go_roundw
      case rel => exact ⟨k + 1, by omega, by go_num, hq3, HO.out.tr ho3⟩
      case measure => simp [intOf]; omega
    · obtain rfl : k = s.size := by omega
      have hall : s.data.toList.take s.size = s.data.toList := List.take_of_length_le (Nat.le_refl _)
      rw [hall] at hq
      have hlt := crcFold_lt s.data.toList
      have hn := bnot32 _ hlt
      have HE : Hid (crc s.data.toList = 4294967295 - crcFold s.data.toList) := rfl
      have c0 : wr.cell? ⟨w.heap.size, 0, none⟩ = some (.int .u32 (crcFold s.data.toList : Nat)) := blk_cell hq 0
      generalize crcFold s.data.toList = v at *
      have HO := Lib.hid ho
      clear hall hq ho
      go_wp2
      go_ret
      exact ⟨by rw [HE.out]; rfl, HB.out.trans (HO.out.below (by have := HB.out.size; omega) (by simp))⟩

/-- Some bytes of a number, the greatest first. -/
def beL (n : Nat) : Nat → Bs
  | 0 => []
  | k + 1 => b8 (n / 2 ^ (8 * k)) :: beL n k
theorem beL_length (n k : Nat) : (beL n k).length = k := by
  induction k with
  | zero => rfl
  | succ k ih => simp [beL, ih]
theorem beL_drop (n m k : Nat) (hk : k < m) : (beL n m).drop k = b8 (n / 2 ^ (8 * (m - 1 - k))) :: (beL n m).drop (k + 1) := by
  induction m generalizing k with
  | zero => omega
  | succ m ih =>
    cases k with
    | zero => simp [beL]
    | succ k =>
      have := ih k (by omega)
      rw [show m + 1 - 1 - (k + 1) = m - 1 - k by omega]
      simpa [beL] using this
theorem beL_set (n m k : Nat) (hk : k < m) : ((beL n m).take k ++ zs (m - k)).set k (b8 (n / 2 ^ (8 * (m - 1 - k)))) = (beL n m).take (k + 1) ++ zs (m - (k + 1)) := by
  have hl := beL_length n m
  have h1 : ((beL n m).take k).length = k := by rw [List.length_take]; omega
  rw [List.set_append_right _ _ (by omega), h1, Nat.sub_self, show m - k = (m - (k + 1)) + 1 by omega]
  have h2 : zs (m - (k + 1) + 1) = 0 :: zs (m - (k + 1)) := by unfold zs; rw [List.replicate_succ]
  rw [h2, List.set_cons_zero]
  have h3 : (beL n m).take (k + 1) = (beL n m).take k ++ [b8 (n / 2 ^ (8 * (m - 1 - k)))] := by
    have hd := beL_drop n m k hk
    have hg : (beL n m)[k]? = some (b8 (n / 2 ^ (8 * (m - 1 - k)))) := by
      have := congrArg (fun l => l[0]?) hd
      simpa [List.getElem?_drop] using this
    rw [List.take_add_one, hg]
    rfl
  rw [h3, List.append_assoc]
  rfl
theorem u8v_set (l : Bs) (k : Nat) (c : UInt8) : (u8v l).toArray.setIfInBounds k (.int .u8 (c.toNat : Int)) = (u8v (l.set k c)).toArray := by
  rw [List.setIfInBounds_toArray]
  unfold u8v
  rw [List.map_set]
theorem conv_string {W : World} {g : Nat} {l : Bs} {t : TypeId} (hq : W.heap[g]? = some (.cells (u8v l).toArray t (0, 0))) (n c : Nat) (hn : l.length = n) :
    (convert 86 9 (.slice (some ⟨g, 0, none⟩) n c)).run Tryz.prog W = .ok (.string (mkS l)) W := by
  subst hn
  exact run_convert_bytes_back (P := Tryz.prog) W 86 9 5 ⟨g, 0, none⟩ c l Tryz.underlying86 Tryz.underlying5 Tryz.underlying9 (by
    intro j hj
    rw [show ((⟨g, 0, none⟩ : Addr).add j) = ⟨g, j, none⟩ from by unfold Addr.add; split <;> simp_all, blk_cell hq, List.getElem?_toArray]
    unfold u8v
    rw [List.getElem?_map, List.getElem?_eq_getElem hj]
    rfl)
theorem one_zero : ∀ k, k < (#[Value.int .u8 0] : Array Value).size → (#[Value.int .u8 0] : Array Value)[k]! = Value.int .u8 0 := by
  intro k hk
  have hk' : k < 1 := hk
  match k, hk' with
  | 0, _ => rfl
theorem b8_cast (n e : Nat) : ((b8 (n / 2 ^ e)).toNat : Int) = (n : Int) / 2 ^ e % 256 := by
  rw [b8_toNat, Int.natCast_emod, Int.natCast_ediv, Int.natCast_pow]
  rfl
theorem laid_step {wr : World} {g n m k : Nat} (hk : k < m) (hq : wr.heap[g]? = some (.cells (u8v ((beL n m).take k ++ zs (m - k))).toArray 5 (0, 0))) :
    (wr.setCell ⟨g, k, none⟩ (.int .u8 ((n : Int) / 2 ^ (8 * (m - 1 - k)) % 256))).heap[g]? = some (.cells (u8v ((beL n m).take (k + 1) ++ zs (m - (k + 1)))).toArray 5 (0, 0)) := by
  rw [← b8_cast]
  have h := blk_set hq k (.int .u8 ((b8 (n / 2 ^ (8 * (m - 1 - k)))).toNat : Int))
  rw [u8v_set, beL_set n m k hk] at h
  exact h
theorem u8_info : (Tryz.prog.info? 5).map (fun i => (i.zero, i.size, i.bytes)) = some (some (.int .u8 0), 1, 1) := by kernel_rfl
set_option maxHeartbeats 2000000 in
set_option maxRecDepth 100000 in
theorem laid_of (n m : Nat) (hn : n < 4294967296) (hm0 : 1 ≤ m) (hm : m ≤ 4) (w : World) :
    Calls Tryz.prog 80 #[.int .u32 (n : Int), .int .i64 (m : Int)] w fun e w' => e = .returned (.string (mkS (beL n m))) ∧ Below w.heap.size w w' := by
  have hmk : (Instr.makeSlice 86 (.int .i64 (m : Int)) (.int .i64 (m : Int))).run Tryz.prog w = .ok (.slice (some ⟨w.heap.size, 0, none⟩) m m) (w.alloc (.cells (u8v (zs m)).toArray 5)) := by
    have hr := run_make_row' (P := Tryz.prog) 86 5 (.int .u8 0) 1 Tryz.underlying86 u8_info rfl .i64 .i64 m (by omega) (by omega) w
    rw [hr, madeCells_same _ (.int .u8 0) _ (by decide) one_zero, u8v_zs]
  go_enter Tryz.func80, Tryz.ntmps80
  go_wp2
  go_loopw [11] (fun i wr => ∃ k : Nat, k ≤ m ∧ i = .int .i64 k ∧ wr.heap[w.heap.size]? = some (.cells (u8v ((beL n m).take k ++ zs (m - k))).toArray 5 (0, 0)) ∧ Below w.heap.size w wr) (fun i _ => m - (intOf i).toNat)
  case atStart => exact ⟨0, Nat.zero_le _, rfl, blk_new w _, (Below.refl _ _).alloc (Nat.le_refl _) _⟩
  case round =>
    obtain ⟨k, hk, rfl, hq, hb⟩ := hrel
    by_cases hkm : k < m
    · have HQ := Lib.hid hq
      have HB := Lib.hid hb
      have hl : ((beL n m).take k ++ zs (m - k)).length = m := by rw [List.length_append, List.length_take, beL_length, zs_length]; omega
      have c0 : ∃ v, wr.cell? ⟨w.heap.size, k, none⟩ = some v := ⟨_, by rw [blk_cell hq, List.getElem?_toArray, List.getElem?_eq_getElem (by rw [u8v_length]; omega)]⟩
      obtain ⟨v0, c0⟩ := c0
      have f0 : wr.frozen? ⟨w.heap.size, k, none⟩ = false := blk_frozen hq k
      clear hq hb hl
      go_wp2
      go_roundw
      case rel => exact ⟨k + 1, by omega, by go_num, laid_step hkm HQ.out, HB.out.setCell (p := ⟨w.heap.size, k, none⟩) (Nat.le_refl _) _⟩
      case measure => simp [intOf]; omega
    · obtain rfl : k = m := by omega
      rw [Nat.sub_self, List.take_of_length_le (by rw [beL_length]; exact Nat.le_refl _), show zs 0 = [] from rfl, List.append_nil] at hq
      have HQ := Lib.hid hq
      have HB := Lib.hid hb
      have hcv := conv_string hq k k (beL_length n k)
      clear hq hb
      go_wp2
      go_ret
      exact ⟨rfl, HB.out⟩

theorem mkS_append (a b : Bs) : mkS a ++ mkS b = mkS (a ++ b) := by
  have h : (mkS a ++ mkS b).data.toList = (mkS (a ++ b)).data.toList := by
    rw [list_mkS, ByteArray.data_append, Array.toList_append]
    show (mkS a).data.toList ++ (mkS b).data.toList = _
    rw [list_mkS, list_mkS]
  rw [← mkS_list (mkS a ++ mkS b), h, mkS_list]
theorem sub_head (r : Bs) (h : r.length ≤ 400) : [1] ++ beL r.length 2 ++ beL (crc r) 4 ++ r ++ [1] = frameL r := by
  unfold frameL headL beL beL beL beL beL
  simp
set_option maxHeartbeats 2000000 in
set_option maxRecDepth 100000 in
theorem Frame_ok (s : ByteArray) (h1 : 1 ≤ s.size) (h2 : s.size ≤ 400) (w : World) :
    Calls Tryz.prog 65 #[.string s] w fun e w' => e = .returned (.tuple #[.string (mkS (frameL s.data.toList)), .int .i64 0]) ∧ Below w.heap.size w w' := by
  have hne : s.toList.isEmpty = false := by
    rw [ByteArray.toList_eq, List.isEmpty_eq_false_iff]
    intro h
    have h3 : s.data.toList.length = 0 := by rw [h]; rfl
    have h4 : s.data.toList.length = s.size := rfl
    omega
  have hne2 : (!s.toList.isEmpty) = true := by rw [hne]; rfl
  have h2' : ((400 : Int) < (s.size : Int)) = False := by simp; omega
  have hcv : (convert 86 9 (.slice (some ⟨w.heap.size, 0, none⟩) 1 1)).run Tryz.prog (w.alloc (.cells #[.int .u8 1] 5)) = .ok (.string (mkS [1])) (w.alloc (.cells #[.int .u8 1] 5)) :=
    conv_string (l := [1]) (blk_new w _) 1 1 rfl
  have HL1 : Hid (∀ W, Calls Tryz.prog 80 #[.int .u32 (s.size : Int), .int .i64 2] W fun e w' => e = .returned (.string (mkS (beL s.size 2))) ∧ Below W.heap.size W w') := fun W => laid_of s.size 2 (by omega) (by omega) (by omega) W
  have HL2 : Hid (∀ W, Calls Tryz.prog 80 #[.int .u32 (crc s.data.toList : Nat), .int .i64 4] W fun e w' => e = .returned (.string (mkS (beL (crc s.data.toList) 4))) ∧ Below W.heap.size W w') := fun W => laid_of (crc s.data.toList) 4 (crc_lt _) (by omega) (by omega) W
  have HSM := Lib.hid (Sum_of s (by omega))
  have hs1 : (mkS [1]).size = 1 := rfl
  have hs2 : (mkS (beL s.size 2)).size = 2 := rfl
  have hs3 : (mkS (beL (crc s.data.toList) 4)).size = 4 := rfl
  generalize hA : mkS (beL s.size 2) = A at *
  generalize hB : mkS (beL (crc s.data.toList) 4) = B at *
  generalize hO : mkS [1] = O at *
  have HF : Hid (O ++ A ++ B ++ s ++ O = mkS (frameL s.data.toList)) := by
    show _ = _
    rw [← hA, ← hB, ← hO, mkS_append, mkS_append]
    conv => lhs; rw [← mkS_list s]
    rw [mkS_append, mkS_append]
    congr 1
    exact sub_head _ h2
  clear hA hB hO
  have hsz1 := hs1
  go_enter Tryz.func65, Tryz.ntmps65
  go_wp2_with fail
  refine (HL1.out _).mono ?_
  rintro e w1 ⟨rfl, hb1⟩
  go_wp2_with fail
  refine (HSM.out _).mono ?_
  rintro e w2 ⟨rfl, hb2⟩
  go_wp2_with fail
  refine (HL2.out _).mono ?_
  rintro e w3 ⟨rfl, hb3⟩
  go_wp2_with fail
  go_ret2
  exact ⟨by rw [HF.out]; rfl, (((((Below.refl w.heap.size w).alloc (Nat.le_refl _) _).trans (hb1.mono (by simp))).trans (hb2.mono (by have := hb1.size; simp at this; omega))).trans (hb3.mono (by have := hb1.size; have := hb2.size; simp at *; omega)))⟩
set_option maxHeartbeats 1000000 in
set_option maxRecDepth 100000 in
theorem Frame_no (s : ByteArray) (h : s.size = 0 ∨ 400 < s.size) (w : World) :
    Calls Tryz.prog 65 #[.string s] w fun e w' => e = .returned (.tuple #[.string (mkS []), .int .i64 3]) ∧ w = w' := by
  rcases h with h | h
  · have hne : s.toList = [] := by
      rw [ByteArray.toList_eq]
      exact List.eq_nil_of_length_eq_zero h
    have hne1 : s.toList.isEmpty = true := by rw [hne]; rfl
    have hne2 : (!s.toList.isEmpty) = false := by rw [hne]; rfl
    have hsz : (s.size : Int) = 0 := by omega
    clear h
    go_enter Tryz.func65, Tryz.ntmps65
    go_wp2
    go_ret2
    exact ⟨rfl, rfl⟩
  · have hne : s.toList.isEmpty = false := by
      rw [ByteArray.toList_eq, List.isEmpty_eq_false_iff]
      intro h
      have h3 : s.data.toList.length = 0 := by rw [h]; rfl
      have h4 : s.data.toList.length = s.size := rfl
      omega
    have hne2 : (!s.toList.isEmpty) = true := by rw [hne]; rfl
    have h2' : (400 : Int) < (s.size : Int) := by omega
    go_enter Tryz.func65, Tryz.ntmps65
    go_wp2
    go_ret2
    exact ⟨rfl, rfl⟩
end Go.Proofs.YtngcdkbnljoodaaGreatDoor

