/- Whatever the text, and whatever is put behind it: what stands ahead of the place of an error is tokens, and the error stays where it is. No conditions. -/
import Derived.Test.YtaempeleddamlaaP5
import Derived.Test.YtaempeleddamlaaLexV
namespace Go.Proofs.Ytaempeleddamlaa.Pure
set_option linter.unusedVariables false
set_option linter.unusedSimpArgs false
open Go.RowKit Go.Proofs.Ytaempeleddamlaa.P Go.Proofs.YtaempeleddamlaaW.PrintWords Go.Proofs.YtaempeleddamlaaW.PrintLast Go.Proofs.Ytaempeleddamlaa

theorem LexAhead : replevinlaw01_LexAhead.Pure := by
  intro s more hs hm
  refine ⟨1, ?_⟩
  unfold replevinlaw01_LexAhead.f replevinlaw01_awake.f
  rw [Option.bind_some, if_pos rfl]
  by_cases h0 : wrap64 ((s.size : Int) + (more.size : Int)) > 4096
  · rw [if_pos h0]
  rw [if_neg h0]
  have hw : wrap64 ((s.size : Int) + (more.size : Int)) = (s.size : Int) + (more.size : Int) := by unfold wrap64; omega
  rw [hw] at h0
  have hL : lex_Lex.f s = some (lexR s) := by unfold lex_Lex.f; rw [if_pos hs]
  rw [hL, Option.bind_some]
  cases hx : lexAt s 0 0 with
  | inl l => rw [lexR_ok hx]; simp
  | inr pe =>
    obtain ⟨p, e⟩ := pe
    rw [lexR_err hx]
    obtain ⟨l, q, hp, h1, h2, h3, h4, h5, h6⟩ := lexAt_err s.size 0 0 p e (by omega) (by omega) hx
    simp only []
    by_cases he : e = 2
    · subst he
      rw [if_pos rfl, if_neg (by omega)]
      have hd : decide ((p : Int) ≥ (s.size : Int)) = false := by simp; omega
      rw [hd]
      rw [replevinlaw01_LexAhead.j0, if_neg (by simp), if_pos (by omega), if_pos (by omega)]
      have ht := pre_cut hp p h1 (by omega) h3
      have hl1 : lexR (s.extract 0 p) = (l, 0, 0) := lexR_ok (ht.ends 0 (by omega))
      have hz1 : (s.extract 0 p).size ≤ 140737488351232 := by rw [ByteArray.size_extract]; omega
      have hL1 : lex_Lex.f (s.extract 0 (p : Int).toNat) = some (lexR (s.extract 0 p)) := by unfold lex_Lex.f; rw [Int.toNat_natCast, if_pos hz1]
      have hsz : ((s ++ ⟨#[32]⟩) ++ more).size = s.size + 1 + more.size := by rw [ByteArray.size_append, ByteArray.size_append]; rfl
      have hsz2 : (s ++ (⟨#[32]⟩ : ByteArray)).size = s.size + 1 := by rw [ByteArray.size_append]; rfl
      have hL2 : lex_Lex.f ((s ++ ⟨#[32]⟩) ++ more) = some (lexR ((s ++ ⟨#[32]⟩) ++ more)) := by unfold lex_Lex.f; rw [if_pos (by omega)]
      rw [hL1, hl1, Option.bind_some, if_pos (by omega), if_pos (by omega), hL2, Option.bind_some, lexR_err (lexAt_app s more s.size 0 0 p 2 (by omega) hx)]
      simp
    · rw [if_neg he]
      rcases h6 with h6 | h6
      · exact absurd h6.1 he
      · have := hp.many
        omega
end Go.Proofs.Ytaempeleddamlaa.Pure
