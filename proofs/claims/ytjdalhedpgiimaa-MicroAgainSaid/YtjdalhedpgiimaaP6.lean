/-
  Plain: the law MicroAgain of the pure functions. Conditions: none but what each argument's type asks.
-/
import Derived.Test.YtjdalhedpgiimaaQ
namespace Go.Proofs.Ytjdalhedpgiimaa
open Go Go.RowKit Gx

theorem frame_refl (y : TFrame) : y.eqb y = true := (TFrame.eqb_iff y y).2 rfl
theorem note_refl (y : TNote) : y.eqb y = true := (TNote.eqb_iff y y).2 rfl
theorem ins_refl (y : TIns) : y.eqb y = true := (TIns.eqb_iff y y).2 rfl
theorem same_l0 (x0 : List TFrame) (hx : x0.length ≤ 100000) : ∀ (suf pre : List TFrame) (k : Nat), x0 = pre ++ suf → suf.length < k → tholeref09_Same.l0 x0 x0 k (pre.length : Int) = some (.go ()) := by
  intro suf
  induction suf with
  | nil =>
    intro pre k e hk
    obtain ⟨k, rfl⟩ : ∃ m, k = m + 1 := ⟨k - 1, by simp at hk; omega⟩
    subst e
    simp [tholeref09_Same.l0]
  | cons y suf ih =>
    intro pre k e hk
    obtain ⟨k, rfl⟩ : ∃ m, k = m + 1 := ⟨k - 1, by simp at hk; omega⟩
    have hlt : (pre.length : Int) < (x0.length : Int) := by subst e; simp; omega
    have hg : x0[pre.length]? = some y := by subst e; simp
    have e2 : w64 ((pre.length : Int) + 1) = ((pre ++ [y]).length : Int) := by rw [w64_id (by omega)]; simp
    rw [tholeref09_Same.l0, if_pos (by simpa using hlt), ix_nat, hg]
    simp only [Option.bind_some, e2, frame_refl, Bool.not_true, Bool.false_eq_true, if_false]
    exact ih (pre ++ [y]) k (by simp [e]) (by simp at hk; omega)
theorem same_refl {x0 : List TFrame} (hx : x0.length ≤ 1000) {k : Nat} (hk : 1001 ≤ k) : tholeref09_Same k x0 x0 = some true := by
  have := same_l0 x0 (by omega) x0 [] k rfl (by omega)
  simp only [List.length_nil, Int.natCast_zero] at this
  rw [tholeref09_Same, if_neg (by simp), this]; rfl
theorem sameN_l0 (x0 : List TNote) (hx : x0.length ≤ 100000) : ∀ (suf pre : List TNote) (k : Nat), x0 = pre ++ suf → suf.length < k → tholeref09_SameNotes.l0 x0 x0 k (pre.length : Int) = some (.go ()) := by
  intro suf
  induction suf with
  | nil =>
    intro pre k e hk
    obtain ⟨k, rfl⟩ : ∃ m, k = m + 1 := ⟨k - 1, by simp at hk; omega⟩
    subst e
    simp [tholeref09_SameNotes.l0]
  | cons y suf ih =>
    intro pre k e hk
    obtain ⟨k, rfl⟩ : ∃ m, k = m + 1 := ⟨k - 1, by simp at hk; omega⟩
    have hlt : (pre.length : Int) < (x0.length : Int) := by subst e; simp; omega
    have hg : x0[pre.length]? = some y := by subst e; simp
    have e2 : w64 ((pre.length : Int) + 1) = ((pre ++ [y]).length : Int) := by rw [w64_id (by omega)]; simp
    rw [tholeref09_SameNotes.l0, if_pos (by simpa using hlt), ix_nat, hg]
    simp only [Option.bind_some, e2, note_refl, Bool.not_true, Bool.false_eq_true, if_false]
    exact ih (pre ++ [y]) k (by simp [e]) (by simp at hk; omega)
theorem sameN_refl {x0 : List TNote} (hx : x0.length ≤ 1000) {k : Nat} (hk : 1001 ≤ k) : tholeref09_SameNotes k x0 x0 = some true := by
  have := sameN_l0 x0 (by omega) x0 [] k rfl (by omega)
  simp only [List.length_nil, Int.natCast_zero] at this
  rw [tholeref09_SameNotes, if_neg (by simp), this]; rfl
theorem again_l1 (x0 : List TIns) (hx : x0.length ≤ 100000) : ∀ (suf pre : List TIns) (k : Nat), x0 = pre ++ suf → suf.length < k → tholelaw09_MicroAgain.l1 x0 x0 k (pre.length : Int) = some (.go ()) := by
  intro suf
  induction suf with
  | nil =>
    intro pre k e hk
    obtain ⟨k, rfl⟩ : ∃ m, k = m + 1 := ⟨k - 1, by simp at hk; omega⟩
    subst e
    simp [tholelaw09_MicroAgain.l1]
  | cons y suf ih =>
    intro pre k e hk
    obtain ⟨k, rfl⟩ : ∃ m, k = m + 1 := ⟨k - 1, by simp at hk; omega⟩
    have hlt : (pre.length : Int) < (x0.length : Int) := by subst e; simp; omega
    have hg : x0[pre.length]? = some y := by subst e; simp
    have e2 : w64 ((pre.length : Int) + 1) = ((pre ++ [y]).length : Int) := by rw [w64_id (by omega)]; simp
    rw [tholelaw09_MicroAgain.l1, if_pos (by simpa using hlt), ix_nat, hg]
    simp only [Option.bind_some, e2, ins_refl, Bool.not_true, Bool.false_eq_true, if_false]
    exact ih (pre ++ [y]) k (by simp [e]) (by simp at hk; omega)
theorem told (x0 : List TIns) (x1 : List Int) (x2 : Int) (x3 : List Int) (_ : (x0.length ≤ maxLen ∧ ∀ y ∈ x0, TIns.wf y)) (_ : (x1.length ≤ maxLen ∧ ∀ y ∈ x1, wfI .i64 y)) (_ : wfI .i64 x2) (_ : (x3.length ≤ maxLen ∧ ∀ y ∈ x3, wfI .i64 y)) : ∃ k, tholelaw09_MicroAgain k x0 x1 x2 x3 = some true := by
  refine ⟨10000, ?_⟩
  rw [tholelaw09_MicroAgain, up_eq]
  simp only [Option.bind_some]
  by_cases hl : ((decide (1024 < (x0.length : Int)) || (decide (100 < (x1.length : Int)))) || (decide (40 < (x3.length : Int)))) = true
  · rw [if_pos hl]
  rw [if_neg hl]
  simp only [Bool.or_eq_true, decide_eq_true_eq, not_or] at hl
  have hm : tholelaw09_made 10000 x1 2 = some (some ⟨0 :: x1, 4096⟩, some ⟨List.replicate 2 zpark, 0⟩) := made_eq x1 (by omega) 2 (by omega) (by omega)
  have hc1 : cell_Arena_Clone ⟨0 :: x1, 4096⟩ = some (some ⟨0 :: x1, 4096⟩) := by
    rw [cell_Arena_Clone, slices_Clone_int64, app_ok (by unfold lim; simp; omega)]; rfl
  have hc2 : permit_Table_Clone ⟨List.replicate 2 zpark, 0⟩ = some (some ⟨List.replicate 2 zpark, 0⟩) := by
    rw [permit_Table_Clone, slices_Clone_Park, app_ok (by unfold lim; simp)]; rfl
  have ha : app [] x0 = some x0 := by rw [app_ok (by unfold lim; simp; omega)]; rfl
  have hs : micro_Start x2 x3 = some [⟨x2, Arr16.zero.copy x3⟩] := rfl
  have hb : app [] [(⟨x2, Arr16.zero.copy x3⟩ : TFrame)] = some [⟨x2, Arr16.zero.copy x3⟩] := by rw [app_ok (by unfold lim; simp)]; rfl
  obtain ⟨r, hr, h⟩ := step_some x0 (a := ⟨0 :: x1, 4096⟩) (t := ⟨List.replicate 2 zpark, 0⟩) (ar0 x1 (by omega)) (tb0 2 (by omega)) 0 [⟨x2, Arr16.zero.copy x3⟩] (k := 10000) (by omega)
  have sp : Sp r := by
    rcases h with ⟨_, h⟩ | h
    · exfalso
      rcases h with h | h | h | h | ⟨p, hp, h⟩
      · simp at h
      · simp at h
      · omega
      · simp at h
      · have : ix (List.replicate 2 zpark) 0 = some zpark := rfl
        rw [this] at hp
        obtain rfl := Option.some.inj hp
        cases h
    · exact h.1
  have hlo := again_l1 x0 (by omega) x0 [] 10000 rfl (by omega)
  simp only [List.length_nil, Int.natCast_zero] at hlo
  have hsm : tholeref09_Same 10000 [(⟨x2, Arr16.zero.copy x3⟩ : TFrame)] [⟨x2, Arr16.zero.copy x3⟩] = some true := same_refl (by simp) (by omega)
  have hf : tholeref09_Same 10000 r.1 r.1 = some true := same_refl (by have := sp.l16; omega) (by omega)
  have hn : tholeref09_SameNotes 10000 r.2.1 r.2.1 = some true := sameN_refl sp.no (by omega)
  have hlen : ∃ n, cell_Arena_Len r.2.2.2.2.2.1 = some n := ⟨_, rfl⟩
  obtain ⟨n, hlen⟩ := hlen
  simp only [hm, om, hc1, hc2, ha, hs, hb, Option.bind_some, hr, hlo, Lp.k, sp.e, Er.isN, Bool.not_true, Bool.false_eq_true, if_false, hsm, if_true, Bool.and_self, hf, hn, beq_self_eq_true, hlen]
end Go.Proofs.Ytjdalhedpgiimaa
