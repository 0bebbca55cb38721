/- The log's one, Scan walk. No conditions beyond those typed. -/
import Derived.Test.YtngcdkbnljoodaaGreatDoorJouL
import Derived.Deep.QuietTactic
import Derived.BigQuiet
import Derived.Test.YtngcdkbnljoodaaGreatDoorShelf
namespace Go.Proofs.YtngcdkbnljoodaaGreatDoor
set_option linter.unusedVariables false
set_option linter.unusedSimpArgs false
open Go.RowKit Go.Proofs.YtngcdkbnljoodaaGreatDoorW.PrintWords

theorem one_short (s : ByteArray) (h : (s.size : Int) < 9) (w : World) :
    Calls Tryz.prog 73 #[.string s] w fun e w' => e = .returned (.tuple #[.string (mkS []), .bool false]) ∧ w = w' := by
  go_enter Tryz.func73, Tryz.ntmps73
  go_wp2
  go_ret2
  exact ⟨rfl, rfl⟩
theorem byte_get (s : ByteArray) (k : Nat) (h : k < s.size) : s[k] = s.data.toList.getD k 0 := by
  rw [List.getD_eq_getElem?_getD, List.getElem?_eq_getElem (show k < s.data.toList.length from h)]
  rfl
set_option maxHeartbeats 2000000 in
set_option maxRecDepth 100000 in
theorem one_head (s : ByteArray) (h : 9 ≤ s.size) (c0 : UInt8) (e0 : s[0]'(by omega) = c0) (h0 : ((c0.toNat : Int) != 1) = true) (w : World) :
    Calls Tryz.prog 73 #[.string s] w fun e w' => e = .returned (.tuple #[.string (mkS []), .bool false]) ∧ w = w' := by
  have h9 : ((s.size : Int) < 9) = False := by simp; omega
  go_enter Tryz.func73, Tryz.ntmps73
  go_wp2
  go_ret2
  exact ⟨rfl, rfl⟩
theorem ofInt_i64 (a : Nat) (ha : a < 9223372036854775808) : (BitVec.ofInt 64 (a : Int)).toNat = a := by
  rw [BitVec.toNat_ofInt]
  omega
theorem or_bytes (a b : Nat) (ha : a < 256) (hb : b < 256) : bits .or .i64 ((a : Int) * 256) (b : Int) = ((256 * a + b : Nat) : Int) := by
  have h1 : 256 * a ||| b = 256 * a + b := (Nat.two_pow_add_eq_or_of_lt (i := 8) hb a).symm
  have h2 : ((a : Int) * 256) = ((256 * a : Nat) : Int) := by omega
  rw [h2]
  show IntKind.i64.wrap ((BitVec.ofInt 64 ((256 * a : Nat) : Int) ||| BitVec.ofInt 64 (b : Int)).toNat : Int) = _
  rw [BitVec.toNat_or, ofInt_i64 (256 * a) (by omega), ofInt_i64 b (by omega), h1, IntKind.wrap_i64]
  omega
/-- What stands at the place of a frame's record, and whether a frame does. -/
def OnePost (s : ByteArray) (w : World) (e : Ending) (w' : World) : Prop :=
  Below w.heap.size w w' ∧ ((∃ r, oneL s.data.toList = some r ∧ e = .returned (.tuple #[.string (mkS r), .bool true])) ∨ (oneL s.data.toList = none ∧ ∃ r, e = .returned (.tuple #[.string r, .bool false])))
set_option maxHeartbeats 2000000 in
set_option maxRecDepth 100000 in
theorem one_many (s : ByteArray) (h : 9 ≤ s.size) (c1 c2 : UInt8) (e0 : s[0]'(by omega) = 1) (e1 : s[1]'(by omega) = c1) (e2 : s[2]'(by omega) = c2) (n : Nat) (hn : n = 256 * c1.toNat + c2.toNat) (hbad : 400 < n ∨ s.size < n + 8) (w : World) :
    Calls Tryz.prog 73 #[.string s] w fun e w' => e = .returned (.tuple #[.string (mkS []), .bool false]) ∧ ∃ k, w' = w.drewN k := by
  have h9 : ((s.size : Int) < 9) = False := by simp; omega
  have hc1 := c1.toNat_lt
  have hc2 := c2.toNat_lt
  have hor := or_bytes c1.toNat c2.toNat hc1 hc2
  rw [← hn] at hor
  have hn2 : n < 65536 := by omega
  clear hn
  by_cases hb : 400 < n
  · go_enter Tryz.func73, Tryz.ntmps73
    go_wp2
    go_quiet (fail)
    go_wp2
    go_ret2
    exact ⟨rfl, _, rfl⟩
  · have hb2 : s.size < n + 8 := by omega
    go_enter Tryz.func73, Tryz.ntmps73
    go_wp2
    go_quiet (fail)
    go_wp2
    go_ret2
    exact ⟨rfl, _, rfl⟩
set_option maxHeartbeats 2000000 in
set_option maxRecDepth 100000 in
theorem one_zero_len (s : ByteArray) (h : 9 ≤ s.size) (c1 c2 : UInt8) (e0 : s[0]'(by omega) = 1) (e1 : s[1]'(by omega) = c1) (e2 : s[2]'(by omega) = c2) (hn : 0 = 256 * c1.toNat + c2.toNat) (w : World) :
    Calls Tryz.prog 73 #[.string s] w fun e w' => (∃ r, e = .returned (.tuple #[.string r, .bool false])) ∧ ∃ k, w' = w.drewN k := by
  have h9 : ((s.size : Int) < 9) = False := by simp; omega
  have hc1 := c1.toNat_lt
  have hc2 := c2.toNat_lt
  have hor := or_bytes c1.toNat c2.toNat hc1 hc2
  rw [← hn] at hor
  have hfr := fun W => Frame_no ByteArray.empty (Or.inl rfl) W
  have HFR := Lib.hid hfr
  clear hn hfr
  go_enter Tryz.func73, Tryz.ntmps73
  go_wp2
  go_quiet (fail)
  go_wp2_with fail
  refine (HFR.out _).mono ?_
  rintro e w2 ⟨rfl, rfl⟩
  go_wp2_with fail
  go_ret2
  exact ⟨⟨_, rfl⟩, _, rfl⟩
theorem extract_list (s : ByteArray) (a b : Nat) : (s.extract a b).data.toList = (s.data.toList.drop a).take (b - a) := by
  rw [ByteArray.data_extract, Array.toList_extract, List.extract_eq_take_drop]
set_option maxHeartbeats 2000000 in
set_option maxRecDepth 100000 in
theorem one_frame (s : ByteArray) (h : 9 ≤ s.size) (c1 c2 : UInt8) (e0 : s[0]'(by omega) = 1) (e1 : s[1]'(by omega) = c1) (e2 : s[2]'(by omega) = c2) (n : Nat) (hn : n = 256 * c1.toNat + c2.toNat) (hn1 : 1 ≤ n) (hn2 : n ≤ 400) (hn3 : n + 8 ≤ s.size) (w : World) :
    Calls Tryz.prog 73 #[.string s] w fun e w' => (e = .returned (.tuple #[.string (s.extract 7 (7 + n)), .bool (Lib.hasPrefix s.data.toList (frameL ((s.data.toList.drop 7).take n)))])) ∧ Below w.heap.size w w' := by
  have h9 : ((s.size : Int) < 9) = False := by simp; omega
  have hc1 := c1.toNat_lt
  have hc2 := c2.toNat_lt
  have hor := or_bytes c1.toNat c2.toNat hc1 hc2
  rw [← hn] at hor
  have hex : (s.extract 7 (7 + n)).size = n := by rw [ByteArray.size_extract]; omega
  have hfr := fun W => Frame_ok (s.extract 7 (7 + n)) (by omega) (by omega) W
  rw [extract_list, show 7 + n - 7 = n by omega] at hfr
  have HFR := Lib.hid hfr
  clear hn hfr hex
  go_enter Tryz.func73, Tryz.ntmps73
  go_wp2
  go_quiet (fail)
  go_wp2_with fail
  refine (HFR.out _).mono ?_
  rintro e w2 ⟨rfl, hb2⟩
  go_wp2_with fail
  refine (Tryz.strings_HasPrefix _ _ _).mono ?_
  rintro e w3 ⟨rfl, rfl⟩
  rw [list_mkS]
  go_wp2_with fail
  go_ret2
  exact ⟨rfl, ⟨hb2.os, hb2.tape, hb2.output, hb2.size, hb2.block⟩⟩
theorem hasPrefix_iff (s p : List UInt8) : Lib.hasPrefix s p = true ↔ s.take p.length = p := by
  unfold Lib.hasPrefix
  rw [List.isPrefixOf_iff_prefix, List.prefix_iff_eq_take]
  exact eq_comm
theorem mkS_extract (s : ByteArray) (a b : Nat) : s.extract a b = mkS ((s.data.toList.drop a).take (b - a)) := by
  rw [← extract_list, mkS_list]
set_option maxHeartbeats 1000000 in
theorem one_of (s : ByteArray) (w : World) : Calls Tryz.prog 73 #[.string s] w (OnePost s w) := by
  have hsl : s.data.toList.length = s.size := rfl
  by_cases h9 : s.size < 9
  · refine (one_short s (by omega) w).mono ?_
    rintro e w' ⟨rfl, rfl⟩
    exact ⟨Below.refl _ _, Or.inr ⟨oneL_short (by omega), _, rfl⟩⟩
  have e0 := byte_get s 0 (by omega)
  have e1 := byte_get s 1 (by omega)
  have e2 := byte_get s 2 (by omega)
  by_cases h0 : s.data.toList.getD 0 0 = 1
  · rw [h0] at e0
    have hln : lenL s.data.toList = 256 * (s.data.toList.getD 1 0).toNat + (s.data.toList.getD 2 0).toNat := rfl
    have hone : oneL s.data.toList = if 1 ≤ lenL s.data.toList ∧ lenL s.data.toList ≤ 400 ∧ lenL s.data.toList + 8 ≤ s.data.toList.length ∧ s.data.toList.take (lenL s.data.toList + 8) = frameL ((s.data.toList.drop 7).take (lenL s.data.toList)) then some ((s.data.toList.drop 7).take (lenL s.data.toList)) else none := by
      unfold oneL; rw [if_neg (by omega)]
    by_cases hb : 400 < lenL s.data.toList ∨ s.size < lenL s.data.toList + 8
    · refine (one_many s (by omega) _ _ e0 e1 e2 _ hln hb w).mono ?_
      rintro e w' ⟨rfl, k, rfl⟩
      exact ⟨⟨rfl, rfl, rfl, Nat.le_refl _, fun _ _ => rfl⟩, Or.inr ⟨by rw [hone, if_neg (by omega)], _, rfl⟩⟩
    · by_cases hz : lenL s.data.toList = 0
      · refine (one_zero_len s (by omega) _ _ e0 e1 e2 (by rw [← hln, hz]) w).mono ?_
        rintro e w' ⟨⟨r, rfl⟩, k, rfl⟩
        exact ⟨⟨rfl, rfl, rfl, Nat.le_refl _, fun _ _ => rfl⟩, Or.inr ⟨by rw [hone, if_neg (by omega)], _, rfl⟩⟩
      · refine (one_frame s (by omega) _ _ e0 e1 e2 _ hln (by omega) (by omega) (by omega) w).mono ?_
        rintro e w' ⟨rfl, hb2⟩
        refine ⟨hb2, ?_⟩
        have hx := extract_list s 7 (7 + lenL s.data.toList)
        rw [show 7 + lenL s.data.toList - 7 = lenL s.data.toList by omega] at hx
        have hfl : (frameL ((s.data.toList.drop 7).take (lenL s.data.toList))).length = lenL s.data.toList + 8 := by
          rw [frameL_length, List.length_take, List.length_drop]; omega
        have hpi := hasPrefix_iff s.data.toList (frameL ((s.data.toList.drop 7).take (lenL s.data.toList)))
        rw [hfl] at hpi
        cases hp : Lib.hasPrefix s.data.toList (frameL ((s.data.toList.drop 7).take (lenL s.data.toList)))
        · refine Or.inr ⟨?_, _, rfl⟩
          rw [hone, if_neg]
          rintro ⟨_, _, _, h4⟩
          rw [hpi.2 h4] at hp
          cases hp
        · refine Or.inl ⟨(s.data.toList.drop 7).take (lenL s.data.toList), ?_, ?_⟩
          · have hc : 1 ≤ lenL s.data.toList ∧ lenL s.data.toList ≤ 400 ∧ lenL s.data.toList + 8 ≤ s.data.toList.length ∧ s.data.toList.take (lenL s.data.toList + 8) = frameL ((s.data.toList.drop 7).take (lenL s.data.toList)) := ⟨by omega, by omega, by omega, hpi.1 hp⟩
            rw [hone, if_pos hc]
          · rw [← hx, mkS_list]
  · refine (one_head s (by omega) _ e0 (by rw [bne_iff_ne]; intro h; exact h0 (UInt8.toNat_inj.1 (by rw [show (1 : UInt8).toNat = 1 from rfl]; omega))) w).mono ?_
    rintro e w' ⟨rfl, rfl⟩
    exact ⟨Below.refl _ _, Or.inr ⟨oneL_first h0, _, rfl⟩⟩

def strV (r : Bs) : Value := .string (mkS r)
theorem string_info : (Tryz.prog.info? 9).map (fun i => (i.zero, i.size, i.bytes)) = some (some (.string ByteArray.empty), 1, 16) := by kernel_rfl
def ScanPost (s : ByteArray) (w : World) (e : Ending) (w' : World) : Prop :=
  ∃ (v : Value) (l : List Bs) (t : Bs), e = .returned (.tuple #[v, .int .i64 ((frames l).length : Int)]) ∧ IsScan s.data.toList l t ∧
    w'.ownsRow w.heap.size 9 1 v l.length (l.map strV) ∧ Below w.heap.size w w'
theorem frames_count (l : List Bs) : l.length ≤ (frames l).length := by
  induction l with
  | nil => exact Nat.zero_le _
  | cons r l ih => rw [frames_cons, List.length_append, frameL_length, List.length_cons]; omega
theorem own_slice {w : World} {base : Nat} {e : TypeId} {size n : Nat} {v : Value} {xs : List Value} (h : w.ownsRow base e size v n xs) : ∃ ao n' cap, v = .slice ao n' cap := by
  rcases h.2 with ⟨hv, _⟩ | ⟨g, cap, cur, hv, _⟩
  · exact ⟨_, _, _, hv⟩
  · exact ⟨_, _, _, hv⟩
set_option maxHeartbeats 2000000 in
set_option maxRecDepth 100000 in
theorem Scan_of (s : ByteArray) (hs : s.size ≤ 1000000) (w : World) : Calls Tryz.prog 55 #[.string s] w (ScanPost s w) := by
  obtain ⟨i0, hi, hz0, hz1, hz2⟩ := info_parts string_info
  have hsl : s.data.toList.length = s.size := rfl
  go_enter Tryz.func55, Tryz.ntmps55
  go_wp2
  go_loopw [4, 5] (fun v i wr => ∃ (ls : List Bs) (t : Bs), s.data.toList = frames ls ++ t ∧ (∀ r ∈ ls, okR r) ∧ i = .int .i64 ((frames ls).length : Nat) ∧ wr.ownsRow w.heap.size 9 1 v ls.length (ls.map strV) ∧ Below w.heap.size w wr) (fun _ i _ => s.size - (intOf i).toNat)
  case atStart => exact ⟨[], s.data.toList, rfl, by simp, rfl, World.ownsRow_nil _ _ _ _, Below.refl _ _⟩
  case round =>
    obtain ⟨ls, t, hst, hok, rfl, hown, hb⟩ := hrel
    have hF : (frames ls).length + t.length = s.size := by rw [← hsl, hst, List.length_append]
    have hcnt := frames_count ls
    have hext : (s.extract (frames ls).length s.size).data.toList = t := by
      rw [extract_list, hst, List.drop_left' rfl, List.take_of_length_le (by omega)]
    have HST := Lib.hid hst
    have HOK := Lib.hid hok
    have HOW := Lib.hid hown
    have HB := Lib.hid hb
    have HX := Lib.hid hext
    generalize hFF : (frames ls).length = F at *
    have HFF := Lib.hid hFF
    clear hst hok hown hb hext hFF
    go_wp2_with fail
    refine (one_of _ _).mono ?_
    rintro e w1 ⟨hb1, (⟨r, hr, rfl⟩ | ⟨hr, r, rfl⟩)⟩
    · rw [HX.out] at hr
      have hstp := IsScan.step HST.out HOK.out hr
      have hrl : r.length + 8 ≤ t.length := by
        have h2 := congrArg List.length (oneL_some hr).2
        rw [List.length_append, frameL_length] at h2
        omega
      have hsz : (mkS r).size = r.length := size_mkS r
      have hF2 : (frames (ls ++ [r])).length = F + (r.length + 8) := by rw [frames_snoc, List.length_append, frameL_length, HFF.out]
      have HS := Lib.hid hstp
      have HF2 := Lib.hid hF2
      have hown1 := pw_own_below HOW.out hb1
      have hB1 := HB.out.trans (hb1.mono HB.out.size)
      have HO1 := Lib.hid hown1
      have HB1 := Lib.hid hB1
      clear hstp hF2 hr hb1 hown1 hB1 HST HOK HOW HB HX HFF
      go_wp2_with (at_builtin; refine wpList_append_own _ rfl _ _ 37 rfl w.heap.size 9 i0 (.string ByteArray.empty) 1 16 Tryz.underlying37 hi hz0 hz1 hz2 rfl (by decide) _ _ _ rfl (HO1.out.alloc _) ⟨w1.heap.size, 0, none⟩ 1 1 [strV r] rfl rfl ?c1 ?c2 ?c3 ?c4 ?c5 ?_)
      case c1 =>
        intro j u hj
        match j, hj with
        | 0, hj => simp at hj; subst hj; simp [Addr.add, strV]
      case c2 => intro u hu; simp at hu; subst hu; rfl
      case c3 => unfold maxLen; omega
      case c4 => omega
      case c5 => have := HB1.out.size; simp; omega
      intro v' w2 hown2 hgrow _
      have hB2 : Below w.heap.size w w2 := (HB1.out.alloc HB1.out.size _).grown hgrow (by have := HB1.out.size; simp; omega) (fun k hk => (HO1.out.lt k hk).1)
      have HO2 := Lib.hid hown2
      have HB2 := Lib.hid hB2
      clear hown2 hgrow hB2 HO1 HB1
      go_wp2
      go_roundw
      case rel => exact ⟨ls ++ [r], t.drop (r.length + 8), HS.out.1, HS.out.2, by rw [HF2.out]; go_num, by have := HO2.out; rw [List.length_append, List.map_append]; exact this, HB2.out⟩
      case measure => simp [intOf]; omega
    · rw [HX.out] at hr
      have HR := Lib.hid hr
      have hB1 := HB.out.trans (hb1.mono HB.out.size)
      have HO1 := Lib.hid (pw_own_below HOW.out hb1)
      have HB1 := Lib.hid hB1
      clear hr hb1 hB1
      go_wp2
      go_ret2
      exact ⟨_, ls, t, by rw [HFF.out]; rfl, ⟨HST.out, HOK.out, HR.out⟩, HO1.out, HB1.out⟩
end Go.Proofs.YtngcdkbnljoodaaGreatDoor

