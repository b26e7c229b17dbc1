/-
  Plain: the law MicroRefuses of the pure functions. Conditions: none but what each argument's type asks.
-/
import Derived.Test.YtjdalhedpgiimaaQ2
namespace Go.Proofs.Ytjdalhedpgiimaa
open Go Go.RowKit Gx

theorem told (x0 : List TIns) (x1 : Int) (x2 : Int) (x3 : Int) (_ : (x0.length ≤ maxLen ∧ ∀ y ∈ x0, TIns.wf y)) (_ : wfI .i64 x1) (h2 : wfI .i64 x2) (h3 : wfI .i64 x3) : ∃ k, tholelaw09_MicroRefuses k x0 x1 x2 x3 = some true := by
  refine ⟨10000, ?_⟩
  have hm : tholelaw09_made 10000 [1, 2, 3] 2 = some (some ⟨[0, 1, 2, 3], 4096⟩, some ⟨List.replicate 2 zpark, 0⟩) := made_eq [1, 2, 3] (by simp) 2 (by omega) (by omega)
  rw [tholelaw09_MicroRefuses, up_eq, hm]
  simp only [Option.bind_some, om]
  by_cases hl : decide (1024 < (x0.length : Int)) = true
  · rw [if_pos hl]
  rw [if_neg hl]
  obtain ⟨n, hn, n0, n1⟩ := pick_some (c := x2) (n := 20) (wfI64 h2) (by omega)
  obtain ⟨w, hw, w0, w1⟩ := pick_some (c := x3) (n := 3) (wfI64 h3) (by omega)
  rw [hn]
  simp only [Option.bind_some, mk]
  rw [if_pos (show 0 ≤ n ∧ n ≤ (lim : Int) by unfold lim; omega)]
  simp only [Option.bind_some, hw]
  have hlen : cell_Arena_Len ⟨[0, 1, 2, 3], 4096⟩ = some 3 := by decide +kernel
  obtain rfl | rfl | rfl : w = 0 ∨ w = 1 ∨ w = 2 := by omega
  · -- all is there
    simp only [show ((0 : Int) == 1) = false from rfl, show ((0 : Int) == 2) = false from rfl, Bool.false_eq_true, if_false]
    obtain ⟨r, hr, h⟩ := step_some x0 (a := ⟨[0, 1, 2, 3], 4096⟩) (t := ⟨List.replicate 2 zpark, 0⟩) (ar0 [1, 2, 3] (by simp)) (tb0 2 (by omega)) x1 (List.replicate n.toNat (⟨0, Arr16.zero⟩ : TFrame)) (k := 10000) (by omega)
    rw [hr]
    simp only [Option.bind_some]
    rcases h with ⟨rfl, h⟩ | ⟨sp, _, l1, l16, i0, i1⟩
    · have hb : (((((decide (0 < (0 : Int))) || (decide (x1 < 0))) || (decide (1 < x1))) || (n == 0)) || (decide (16 < n))) = true := by
        simp only [List.length_replicate] at h
        rcases h with h | h | h | h | ⟨p, hp, hb⟩
        · have : n = 0 := by omega
          simp [this]
        · have : 16 < n := by omega
          simp [this]
        · simp [h]
        · have : 1 < x1 := by omega
          simp [this]
        · rw [ix] at hp
          split at hp
          · have := List.eq_of_mem_replicate (List.mem_of_getElem? hp)
            subst this
            cases hb
          · cases hp
      rw [hb]
      simp [hlen]
    · have hb : (((((decide (0 < (0 : Int))) || (decide (x1 < 0))) || (decide (1 < x1))) || (n == 0)) || (decide (16 < n))) = false := by
        simp only [List.length_replicate] at l1 l16 i1
        simp
        omega
      rw [hb]
      have := sp.how
      simp [sp.e, Er.isN, this]
  · simp [micro_Step_n1, hlen]
  · simp [micro_Step_n2, hlen]
end Go.Proofs.Ytjdalhedpgiimaa
