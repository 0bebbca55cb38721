/- Lemmas and contracts for the functions of one layer of the program, used by the law's proof. No conditions beyond those typed. -/
import Derived.Test.YtdphomiljkclbaaDoorLexA
namespace Go.Proofs.YtdphomiljkclbaaDoor
set_option linter.unusedVariables false
set_option linter.unusedSimpArgs false
open Go.RowKit Go.Proofs.YtdphomiljkclbaaDoorW.PrintWords Go.Proofs.YtdphomiljkclbaaDoorW.PrintLast Go.Proofs.YtdphomiljkclbaaDoorW.PrintMore Go.Proofs.YtdphomiljkclbaaDoor.P

/-- The value of a text's first digits. -/
def numTo (s : ByteArray) : Nat → Int
  | 0 => 0
  | k + 1 => 10 * numTo s k + (bt s k - 48)
theorem bt_dig {s : ByteArray} (hd : ∀ k : Nat, k < s.size → isDig (bt s k) = true) (k : Nat) (hk : k < s.size) : 48 ≤ bt s k ∧ bt s k ≤ 57 := by
  have := hd k hk
  simpa [isDig] using this
theorem numTo_mono {s : ByteArray} (hd : ∀ k : Nat, k < s.size → isDig (bt s k) = true) : ∀ k, k ≤ s.size → 0 ≤ numTo s k ∧ ∀ j, j ≤ k → numTo s j ≤ numTo s k
  | 0, _ => ⟨by simp [numTo], fun j hj => by rw [Nat.le_zero.1 hj]; exact Int.le_refl _⟩
  | k + 1, h => by
    have ih := numTo_mono hd k (by omega)
    have hb := bt_dig hd k (by omega)
    have h1 : numTo s (k + 1) = 10 * numTo s k + (bt s k - 48) := rfl
    refine ⟨by omega, fun j hj => ?_⟩
    rcases Nat.lt_or_ge j (k + 1) with h2 | h2
    · have := ih.2 j (by omega); omega
    · obtain rfl : j = k + 1 := by omega
      exact Int.le_refl _
def numV (s : ByteArray) : Int := if numTo s s.size ≤ 1048576 then numTo s s.size else 0
def numOk (s : ByteArray) : Bool := decide (numTo s s.size ≤ 1048576) && (s.size == 1 || bt s 0 != 48)

theorem ofs_byte {s : ByteArray} (h : 0 < s.size) : ((s[0].toNat : Nat) : Int) = bt s 0 := by simp [bt, h]
theorem zero_text (s : ByteArray) (h0 : 0 < s.size) : (s.toList == [48]) = (s.size == 1 && bt s 0 == 48) := by
  have hb := ofs_byte h0
  rw [← hb, ByteArray.toList_eq]
  obtain ⟨⟨l⟩⟩ := s
  match l, h0 with
  | [c], _ =>
    have : (c == 48) = (((c.toNat : Nat) : Int) == 48) := by
      rw [Bool.eq_iff_iff]
      simp only [beq_iff_eq]
      constructor
      · rintro rfl; rfl
      · intro h; apply UInt8.toNat_inj.1; have h2 : c.toNat = 48 := by omega
        rw [h2]; rfl
    show ([c] == [48]) = (true && (((c.toNat : Nat) : Int) == 48))
    rw [← this]
    simp
  | c :: d :: l, _ =>
    have h1 : ((⟨⟨c :: d :: l⟩⟩ : ByteArray).size == 1) = false := by
      show ((c :: d :: l).length == 1) = false
      simp
    rw [h1]
    show ((c :: d :: l) == [48]) = (false && _)
    simp
theorem numOk_eq (s : ByteArray) (h0 : 0 < s.size) (h : numTo s s.size ≤ 1048576) : numOk s = (if (s.toList == [48]) = true then true else (((s[0].toNat : Nat) : Int) != 48)) := by
  rw [zero_text s h0, ofs_byte h0]
  unfold numOk
  cases h1 : (s.size == 1) <;> cases h2 : (bt s 0 == 48) <;> simp_all
set_option maxHeartbeats 400000 in
theorem number_any (s : ByteArray) (h0 : 0 < s.size) (hs : s.size ≤ 140737488351232) (hd : ∀ k : Nat, k < s.size → isDig (bt s k) = true) (w : World) :
    Calls Tryd.prog 40 #[.string s] w fun e w' => e = .returned (.tuple #[.int .i64 (numV s), .bool (numOk s)]) ∧ Below w.heap.size w w' := by
  have hd' := Lib.hid hd
  clear hd
  have kb := fun W => print_bytes (P := Tryd.prog) 9 59 5 Tryd.underlying9 Tryd.underlying59 Tryd.underlying5 s W
  have hr := Aside0.mk (bytes_reads w 5 s (by omega))
  have hB := Aside0.mk (bytes_below (Below.refl w.heap.size w) (Nat.le_refl _) 5 s)
  go_enter Tryd.func40, Tryd.ntmps40
  go_wp2
  clear kb
  generalize Lib.bytesWorld w 5 s = W at *
  go_loop [4, 10] (fun n i => ∃ k : Nat, k ≤ s.size ∧ i = .int .i64 k ∧ ∃ v : Int, n = .int .i64 v ∧ Aside0 (v = numTo s k) ∧ v ≤ 1048576 ∧ 0 ≤ v) (fun _ i => s.size - (intOf i).toNat)
  case atStart => exact ⟨0, Nat.zero_le _, rfl, 0, rfl, ⟨rfl⟩, by omega, by omega⟩
  case round =>
    obtain ⟨k, hk, rfl, v, rfl, HV, hv1, hv0⟩ := hrel
    by_cases hlt : k < s.size
    · have hb := bt_dig hd'.out k hlt
      have hc := hr.out.at_ k (by omega) (by omega)
      rw [rd_bytesOf] at hc
      obtain ⟨ad, e, hc⟩ := hc
      cases e
      rw [Int.toNat_natCast, add_plain] at hc
      have hn : numTo s (k + 1) = 10 * numTo s k + (bt s k - 48) := rfl
      have HN := Lib.hid hn
      clear hn
      obtain ⟨b, hbb⟩ : ∃ b, b = bt s k := ⟨_, rfl⟩
      rw [← hbb] at hb hc HN
      have HBB := Lib.hid hbb
      clear hbb
      have hw1 : (b - 48) % 256 = b - 48 := by omega
      have HW1 := Lib.hid hw1
      clear hw1
      by_cases hgt : 10 * v + (b - 48) > 1048576
      · have HF := Lib.hid (numTo_mono hd'.out s.size (Nat.le_refl _)).2
        go_wp2
        go_ret2
        have hgt' : ¬ numTo s s.size ≤ 1048576 := by
          have h1 := HF.out (k + 1) (by omega)
          rw [HN.out, ← HV.out] at h1
          omega
        exact ⟨by simp [numV, numOk, hgt'], hB.out⟩
      · go_wp2
        go_round
        case rel => exact ⟨k + 1, by omega, by go_num, 10 * v + (b - 48), by first | rfl | (rw [HW1.out]; done), ⟨by rw [HN.out, HV.out]⟩, by omega, by omega⟩
        case measure => simp [intOf]; omega
    · obtain rfl : k = s.size := by omega
      have HE := Lib.hid (numOk_eq s (by omega) (by rw [← HV.out]; exact hv1))
      have HE2 : Hid (numV s = v) := by rw [HV.out]; unfold numV; rw [if_pos (by rw [← HV.out]; exact hv1)]; rfl
      cases hz : (s.toList == [48])
      all_goals
        go_wp2
        go_quiet (fail)
        go_wp2
        go_ret2
        exact ⟨by rw [HE.out, HE2.out, hz]; rfl, pw_below_drewN hB.out nq⟩
end Go.Proofs.YtdphomiljkclbaaDoor
