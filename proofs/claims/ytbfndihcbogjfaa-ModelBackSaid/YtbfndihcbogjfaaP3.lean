/-
  Plain: the law ModelBack of the pure functions. Conditions: none but what each argument's type asks.
-/
import Derived.Test.YtbfndihcbogjfaaP2
namespace Go.Proofs.Ytbfndihcbogjfaa
open Go Go.RowKit Gx

theorem pos_step (x : TThing) (k : Nat) (b : Bool) (i : Int) (h : 0 ≤ i ∧ i < 8) : tholelaw10_ModelBack.l0 x (k + 1) b i = tholelaw10_ModelBack.l0 x k (b && decide (0 ≤ x.reads.get i)) (i + 1) := by
  rw [tholelaw10_ModelBack.l0, if_pos (by simpa using h.2)]
  simp only [if_pos h, gif, Option.bind_some]
  rw [show w64 (i + 1) = i + 1 from w64_id (by omega)]
theorem pos_eq (x : TThing) (b : Bool) (k : Nat) : tholelaw10_ModelBack.l0 x (k + 9) b 0 = some (b && decide (0 ≤ x.reads.a0 ∧ 0 ≤ x.reads.a1 ∧ 0 ≤ x.reads.a2 ∧ 0 ≤ x.reads.a3 ∧ 0 ≤ x.reads.a4 ∧ 0 ≤ x.reads.a5 ∧ 0 ≤ x.reads.a6 ∧ 0 ≤ x.reads.a7)) := by
  rw [pos_step x (k + 8) _ 0 (by omega), pos_step x (k + 7) _ _ (by omega), pos_step x (k + 6) _ _ (by omega), pos_step x (k + 5) _ _ (by omega), pos_step x (k + 4) _ _ (by omega), pos_step x (k + 3) _ _ (by omega), pos_step x (k + 2) _ _ (by omega), pos_step x (k + 1) _ _ (by omega)]
  rw [tholelaw10_ModelBack.l0]
  simp [Arr8.get, Bool.and_assoc]
theorem round {x : TThing} {t v : Int} {k : Nat} {i : Int} {m f : TNote} (o : Ok x) (hk : 110 ≤ k) (hi : 0 ≤ i ∧ i < 4) (hm : ix [(⟨1, 1⟩ : TNote), (⟨1, v⟩ : TNote), (⟨2, 0⟩ : TNote), (⟨15, v⟩ : TNote)] i = some m) (hf : ix [(⟨3, 0⟩ : TNote), (⟨3, v⟩ : TNote), (⟨4, 0⟩ : TNote), (⟨16, 0⟩ : TNote)] i = some f)
    (h : ¬ (i = 0 ∧ x.kind = 2 ∨ i = 1 ∧ x.kind ≠ 2) → Back k x t m f) : tholelaw10_ModelBack.l1 x t v (k + 1) i = tholelaw10_ModelBack.l1 x t v k (i + 1) := by
  rw [tholelaw10_ModelBack.l1, if_pos (by simpa using hi.2), hm, hf]
  rw [show w64 (i + 1) = i + 1 from w64_id (by omega)]
  by_cases hc : i = 0 ∧ x.kind = 2 ∨ i = 1 ∧ x.kind ≠ 2
  · rw [if_pos (by simpa using hc)]
  · rw [if_neg (by simpa using hc)]
    obtain ⟨y, b, h1, h2⟩ := h hc
    simp only [Option.bind_some, h1]
    by_cases hb : b = true ∧ x.kind ≠ 3
    · have hs := same_refl x (Nat.le_trans o.len (by decide)) (k := k) (by have := o.len; omega)
      rw [if_neg (by simp [hb.1, hb.2]), h2 hb.1 hb.2]
      simp [hs]
    · rw [if_pos]
      by_cases h3 : x.kind = 3
      · simp [h3]
      · have : b = false := by cases b with | false => rfl | true => exact absurd ⟨rfl, h3⟩ hb
        simp [this]
theorem told (x0 : TThing) (x1 : Int) (x2 : Int) (_ : TThing.wf x0) (_ : wfI .i64 x1) (hv : wfI .i64 x2) : ∃ k, tholelaw10_ModelBack k x0 x1 x2 = some true := by
  refine ⟨200, ?_⟩
  rw [tholelaw10_ModelBack, up_eq 199]
  simp only [Option.bind_some]
  rw [light_eq x0 191]
  simp only [Option.bind_some]
  rw [pos_eq x0 _ 191]
  simp only [Option.bind_some]
  split
  · rfl
  rename_i hc
  have o : Ok x0 := by
    simp [lightB] at hc
    obtain ⟨⟨⟨⟨⟨⟨⟨hl, hp⟩, n0⟩, n1⟩, h0⟩, h1⟩, sw⟩, ow⟩ := hc
    refine ⟨by omega, n0, n1, h0, h1, fun i hi => ?_, fun a b => ?_, ?_⟩
    · obtain rfl | rfl | rfl | rfl | rfl | rfl | rfl | rfl : i = 0 ∨ i = 1 ∨ i = 2 ∨ i = 3 ∨ i = 4 ∨ i = 5 ∨ i = 6 ∨ i = 7 := by omega
      all_goals (simp only [Arr8.get]; simp; omega)
    · exact sw a b
    · by_cases a : x0.owner = -1 <;> by_cases b : x0.holds = 0 <;> simp_all
  rw [round o (by omega) (by omega) rfl rfl (fun h => back0 (v := x2) o (by simp at h; omega) 199 (by omega))]
  rw [round o (by omega) (by omega) rfl rfl (fun h => back1 o hv (by simp at h; omega) 198)]
  rw [round o (by omega) (by omega) rfl rfl (fun h => back2 o 197 (by omega))]
  rw [round o (by omega) (by omega) rfl rfl (fun h => back3 o 196 (by omega))]
  rw [tholelaw10_ModelBack.l1]
  simp [Lp.k]
end Go.Proofs.Ytbfndihcbogjfaa
