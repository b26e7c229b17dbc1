/-
  Plain: the law MicroOne of the pure functions. Conditions: none but what each argument's type asks.
-/
import Derived.Test.YtjdalhedpgiimaaQ2
namespace Go.Proofs.Ytjdalhedpgiimaa
open Go Go.RowKit Gx

theorem len_eq {a : Tcell_Arena} (h : Ar a) : cell_Arena_Len a = some ((a.l.length : Int) - 1) := by
  have := h.len
  have := h.small
  rw [cell_Arena_Len, w64_id (by omega)]
theorem count_l5 {a : Tcell_Arena} {r : Res} (ha : Ar a) {j : Nat} {v : Int} {z : List Int} (hr : r.2.2.2.2.2.1.l = a.l.set j v ++ z) : ∀ (k i : Nat) (c : Int), 1 ≤ i → i ≤ a.l.length → a.l.length < k + i → 0 ≤ c ∧ c + ((a.l.length : Int) - (i : Int)) ≤ 100000 →
    ∃ g, tholelaw09_MicroOne.l5 a r k c (i : Int) = some (.go g) ∧ (g.1 ≤ c + 1) ∧ (j < i → g.1 = c) := by
  intro k
  induction k with
  | zero => intro i c h1 h2 h3 hc; omega
  | succ k ih =>
    intro i c h1 h2 h3 hc
    have hs := ha.small
    rw [tholelaw09_MicroOne.l5, len_eq ha]
    simp only [Option.bind_some]
    by_cases hi : decide ((i : Int) ≤ (a.l.length : Int) - 1) = true
    · rw [if_pos hi]
      simp only [decide_eq_true_eq] at hi
      have hlt : i < a.l.length := by omega
      have hx : ix a.l (i : Int) = some a.l[i] := by rw [ix_nat, List.getElem?_eq_getElem hlt]
      have hlen : i < r.2.2.2.2.2.1.l.length := by rw [hr]; simp; omega
      have hy : ix r.2.2.2.2.2.1.l (i : Int) = some (r.2.2.2.2.2.1.l[i]) := by rw [ix_nat, List.getElem?_eq_getElem hlen]
      rw [load_in ⟨by omega, by omega⟩ hx, load_in ⟨by omega, by omega⟩ hy]
      simp only [Option.bind_some, Er.isN, Bool.not_true, Bool.or_self, Bool.false_eq_true, if_false]
      have e2 : w64 ((i : Int) + 1) = ((i + 1 : Nat) : Int) := by rw [w64_id (by omega)]; rfl
      have hne : i ≠ j → r.2.2.2.2.2.1.l[i] = a.l[i] := fun h => by
        have : r.2.2.2.2.2.1.l[i]? = a.l[i]? := by
          rw [hr, List.getElem?_append_left (by simpa using hlt), List.getElem?_set_ne (Ne.symm h)]
        rw [List.getElem?_eq_getElem hlen, List.getElem?_eq_getElem hlt] at this
        exact Option.some.inj this
      rw [e2]
      by_cases hd : (a.l[i] != r.2.2.2.2.2.1.l[i]) = true
      · rw [if_pos hd, w64_id (by omega)]
        have hij : i = j := by
          by_cases h : i = j
          · exact h
          · have := hne h
            simp [this] at hd
        obtain ⟨g, hg, _, h2⟩ := ih (i + 1) (c + 1) (by omega) (by omega) (by omega) (by omega)
        exact ⟨g, hg, by rw [h2 (by omega)]; omega, fun h => by omega⟩
      · rw [if_neg hd]
        obtain ⟨g, hg, h1, h2⟩ := ih (i + 1) c (by omega) (by omega) (by omega) (by omega)
        exact ⟨g, hg, h1, fun h => h2 (by omega)⟩
    · rw [if_neg hi]
      exact ⟨_, rfl, by show c ≤ c + 1; omega, fun _ => rfl⟩
theorem one_l3 (x0 : List TIns) (x4 : Int) (h4 : wfI .i64 x4) : ∀ (k n : Nat) (a : Tcell_Arena) (t : Tpermit_Table) (l : List TFrame), Ar a → Tb t → n ≤ 30 → 5040 ≤ k + n → ∃ g, tholelaw09_MicroOne.l3 x0 x4 k a.l a.most t.l t.now l (n : Int) = some (.go g) := by
  obtain ⟨p, hp, p0, p1⟩ := pick_some (c := x4) (n := 30) (wfI64 h4) (by omega)
  intro k
  induction k with
  | zero => intro n a t l ha ht hn hk; omega
  | succ k ih =>
    intro n a t l ha ht hn hk
    rw [tholelaw09_MicroOne.l3, hp]
    simp only [Option.bind_some]
    by_cases hc : decide ((n : Int) < p) = true
    · rw [if_pos hc]
      simp only [decide_eq_true_eq] at hc
      have hcl : cell_Arena_Clone (⟨a.l, a.most⟩ : Tcell_Arena) = some (some a) := by
        have := ha.small
        rw [cell_Arena_Clone, slices_Clone_int64, app_ok (by unfold lim; simp; omega)]; rfl
      rw [hcl]
      simp only [Option.bind_some, om]
      obtain ⟨r, hr, h⟩ := step_some x0 (a := a) (t := t) ha ht 0 l (k := k) (by omega)
      have hr' : micro_Step k x0 (⟨a.l, a.most⟩ : Tcell_Arena) (⟨t.l, t.now⟩ : Tpermit_Table) 0 l = some r := hr
      rw [hr']
      simp only [Option.bind_some]
      rcases h with ⟨rfl, _⟩ | ⟨sp, ⟨j, v, z, hz⟩, _⟩
      · simp [Er.isN]
      · simp only [sp.e, Er.isN, Bool.not_true, Bool.or_self, Bool.false_or]
        by_cases hh : (r.2.2.1 != 0) = true
        · rw [if_pos hh]; exact ⟨_, rfl⟩
        rw [if_neg hh]
        obtain ⟨g, hg, h1, _⟩ := count_l5 ha hz k 1 0 (by omega) ha.len (by have := ha.small; omega) (by have := ha.small; omega)
        have hg' : tholelaw09_MicroOne.l5 a r k 0 1 = some (.go g) := hg
        rw [hg']
        simp only [Option.bind_some, Lp.k]
        rw [if_neg (by simp only [decide_eq_true_eq]; omega)]
        have e2 : w64 ((n : Int) + 1) = ((n + 1 : Nat) : Int) := by rw [w64_id (by omega)]; rfl
        rw [e2]
        exact ih (n + 1) r.2.2.2.2.2.1 r.2.2.2.2.2.2 r.1 sp.ar sp.tb (by omega) (by omega)
    · rw [if_neg hc]; exact ⟨_, rfl⟩
theorem told (x0 : List TIns) (x1 : List Int) (x2 : Int) (x3 : List Int) (x4 : Int) (_ : (x0.length ≤ maxLen ∧ ∀ y ∈ x0, TIns.wf y)) (_ : (x1.length ≤ maxLen ∧ ∀ y ∈ x1, wfI .i64 y)) (_ : wfI .i64 x2) (_ : (x3.length ≤ maxLen ∧ ∀ y ∈ x3, wfI .i64 y)) (h4 : wfI .i64 x4) : ∃ k, tholelaw09_MicroOne k x0 x1 x2 x3 x4 = some true := by
  refine ⟨10000, ?_⟩
  rw [tholelaw09_MicroOne, up_eq]
  simp only [Option.bind_some]
  by_cases hl : ((decide (1024 < (x0.length : Int)) || (decide (100 < (x1.length : Int)))) || (decide (40 < (x3.length : Int)))) = true
  · rw [if_pos hl]
  rw [if_neg hl]
  simp only [Bool.or_eq_true, decide_eq_true_eq, not_or] at hl
  have hm : tholelaw09_made 10000 x1 1 = some (some ⟨0 :: x1, 4096⟩, some ⟨List.replicate 1 zpark, 0⟩) := made_eq x1 (by omega) 1 (by omega) (by omega)
  have hs : micro_Start x2 x3 = some [⟨x2, Arr16.zero.copy x3⟩] := rfl
  obtain ⟨g, hg⟩ := one_l3 x0 x4 h4 10000 0 ⟨0 :: x1, 4096⟩ ⟨List.replicate 1 zpark, 0⟩ [⟨x2, Arr16.zero.copy x3⟩] (ar0 x1 (by omega)) (tb0 1 (by omega)) (by omega) (by omega)
  have hg' : tholelaw09_MicroOne.l3 x0 x4 10000 (0 :: x1) 4096 (List.replicate 1 zpark) 0 [⟨x2, Arr16.zero.copy x3⟩] 0 = some (.go g) := hg
  simp only [hm, om, hs, Option.bind_some, hg', Lp.k]
end Go.Proofs.Ytjdalhedpgiimaa
