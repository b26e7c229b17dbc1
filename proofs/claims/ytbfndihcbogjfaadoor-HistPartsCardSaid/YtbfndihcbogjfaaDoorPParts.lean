/-
  Plain: the law HistParts of the pure functions. Conditions: none but what each argument's type asks.
-/
import Derived.Test.YtbfndihcbogjfaaDoorPT
namespace Go.Proofs.YtbfndihcbogjfaaDoor
open Go Go.RowKit Gx

theorem TEvent.same (e : TEvent) : e.eqb e = true := (TEvent.eqb_iff e e).2 rfl
theorem parts_l0 (a b : List TEvent) (hl : a.length ≤ 3000) : ∀ (suf pre : List TEvent) (k : Nat), a = pre ++ suf → suf.length < k → tholelaw20_HistParts.l0 a (a ++ b) k (pre.length : Int) = some (.go ()) := by
  intro suf
  induction suf with
  | nil =>
    intro pre k h hk
    obtain ⟨k, rfl⟩ : ∃ k', k = k' + 1 := ⟨k - 1, by omega⟩
    rw [tholelaw20_HistParts.l0, if_neg (nlt_ h)]
  | cons e suf ih =>
    intro pre k h hk
    obtain ⟨k, rfl⟩ : ∃ k', k = k' + 1 := ⟨k - 1, by omega⟩
    simp only [List.length_cons] at hk
    have h2 : a ++ b = pre ++ e :: (suf ++ b) := by rw [h]; simp
    rw [tholelaw20_HistParts.l0, if_pos (lt_ h), at_ h2, at_ h, nx_ h (by omega)]
    simp only [Option.bind_some]
    rw [if_neg (by simp [TEvent.same]), ih (pre ++ [e]) k (sh_ h) (by omega)]
theorem parts_l1 (a b : List TEvent) (ha : a.length ≤ 3000) (hb : b.length ≤ 3000) : ∀ (k i : Nat), i ≤ 8 → 9000 < k + i → tholelaw20_HistParts.l1 (rows a 8) (rows b 8) (rows (a ++ b) 8) k (i : Int) = some (.go ()) := by
  intro k
  induction k with
  | zero => intro i hi hk; omega
  | succ k ih =>
    intro i hi hk
    rw [tholelaw20_HistParts.l1]
    by_cases h8 : i = 8
    · subst h8; rfl
    · have hb8 : 0 ≤ (i : Int) ∧ (i : Int) < ((8 : Nat) : Int) := by omega
      have la := res_len a (i : Int)
      have lb := res_len b (i : Int)
      rw [if_pos (by simp; omega), rows_at _ 8 hb8, rows_at _ 8 hb8, rows_at _ 8 hb8]
      simp only [Option.bind_some]
      rw [app_ok (by simp [lim]; omega)]
      simp only [Option.bind_some, List.nil_append]
      rw [app_ok (by simp [lim]; omega)]
      simp only [Option.bind_some]
      rw [res_app, same_refl _ (by simp; omega) (by simp; omega)]
      simp only [Option.bind_some]
      rw [if_neg (by simp), show w64 ((i : Int) + 1) = ((i + 1 : Nat) : Int) from by rw [w64_id (by omega)]; omega]
      exact ih (i + 1) (by omega) (by omega)
theorem told (x0 : List TEvent) (x1 : List TEvent) (x2 : Int) (h0 : (x0.length ≤ maxLen ∧ ∀ y ∈ x0, TEvent.wf y)) (h1 : (x1.length ≤ maxLen ∧ ∀ y ∈ x1, TEvent.wf y)) (_ : wfI .i64 x2) : ∃ k, tholelaw20_HistParts k x0 x1 x2 = some true := by
  refine ⟨10000, ?_⟩
  rw [tholelaw20_HistParts, up_all]
  simp only [Option.bind_some]
  by_cases hl : 3000 < (x0.length : Int) ∨ 3000 < (x1.length : Int)
  · rw [if_pos (by simpa using hl)]
  rw [if_neg (by simpa using hl)]
  have ha : x0.length ≤ 3000 := by omega
  have hb : x1.length ≤ 3000 := by omega
  have hab : (x0 ++ x1).length ≤ 6000 := by simp; omega
  have hw : ∀ e ∈ x0 ++ x1, TEvent.wf e := fun e he => (List.mem_append.1 he).elim (h0.2 e) (h1.2 e)
  have oa := ords_len x0 x2
  have ob := ords_len x1 x2
  rw [app_ok (by simp [lim]; omega)]
  simp only [Option.bind_some, List.nil_append]
  rw [app_ok (by simp [lim]; omega)]
  simp only [Option.bind_some]
  have r1 := results_eq x0 8 (Nat.le_refl _) (by omega) (k := 10000) (by omega)
  have r2 := results_eq x1 8 (Nat.le_refl _) (by omega) (k := 10000) (by omega)
  have r3 := results_eq (x0 ++ x1) 8 (Nat.le_refl _) (by omega) (k := 10000) (by omega)
  rw [show (((8 : Nat) : Int)) = 8 from rfl] at r1 r2 r3
  rw [r1, r2, r3]
  simp only [Option.bind_some]
  have p0 := parts_l0 x0 x1 ha x0 [] 10000 rfl (by omega)
  rw [show ((([] : List TEvent).length : Nat) : Int) = 0 from rfl] at p0
  rw [p0]
  simp only [Option.bind_some, Lp.k]
  rw [if_neg (by simp [rows_len])]
  have p1 := parts_l1 x0 x1 ha hb 10000 0 (by omega) (by omega)
  rw [show (((0 : Nat) : Int)) = 0 from rfl] at p1
  rw [p1]
  simp only [Option.bind_some, Lp.k]
  rw [order_eq x0 x2 (by omega) (by omega), order_eq x1 x2 (by omega) (by omega), order_eq (x0 ++ x1) x2 (by omega) (by omega), marks_eq x0 x2 (by omega) (by omega), marks_eq x1 x2 (by omega) (by omega), marks_eq (x0 ++ x1) x2 (by omega) (by omega), text_eq x0 (by omega) h0.2 (by omega), text_eq x1 (by omega) h1.2 (by omega), text_eq (x0 ++ x1) (by omega) hw (by omega)]
  simp only [Option.bind_some]
  rw [app_ok (by simp [lim]; omega)]
  simp only [Option.bind_some, List.nil_append]
  rw [app_ok (by simp [lim]; omega)]
  simp only [Option.bind_some]
  have tx : sapp (txt x0) (txt x1) = some (txt (x0 ++ x1)) := by
    rw [txt_app]
    apply sapp_ok
    have t1 := txt_len x0 h0.2
    have t2 := txt_len x1 h1.2
    omega
  rw [tx, ords_app, ints_refl (ords x0 x2 ++ ords x1 x2) (by simp; omega) (by simp; omega)]
  rw [w64_id (by omega)]
  simp
end Go.Proofs.YtbfndihcbogjfaaDoor
