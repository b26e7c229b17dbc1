/-
  Plain: which of n things a number speaks of. Conditions: as said.
-/
import Derived.Test.YtjdalhedpgiimaaQ
namespace Go.Proofs.Ytjdalhedpgiimaa
open Go Go.RowKit Gx

theorem pick_some {c n : Int} (hc : -9223372036854775808 ≤ c ∧ c ≤ 9223372036854775807) (hn : 0 < n) : ∃ r, tholelaw09_pick c n = some r ∧ 0 ≤ r ∧ r < n := by
  rw [tholelaw09_pick]
  by_cases h : c < 0
  · rw [if_pos (by simpa using h), if_pos (by omega), w64_id (n := c + 1) (by omega), w64_id (by omega)]
    refine ⟨_, rfl, ?_, ?_⟩
    · rw [Int.tmod_eq_emod_of_nonneg (by omega)]; exact Int.emod_nonneg _ (by omega)
    · rw [Int.tmod_eq_emod_of_nonneg (by omega)]; exact Int.emod_lt_of_pos _ hn
  · rw [if_neg (by simpa using h), if_pos (by omega)]
    refine ⟨_, rfl, ?_, ?_⟩
    · rw [Int.tmod_eq_emod_of_nonneg (by omega)]; exact Int.emod_nonneg _ (by omega)
    · rw [Int.tmod_eq_emod_of_nonneg (by omega)]; exact Int.emod_lt_of_pos _ hn
end Go.Proofs.Ytjdalhedpgiimaa
