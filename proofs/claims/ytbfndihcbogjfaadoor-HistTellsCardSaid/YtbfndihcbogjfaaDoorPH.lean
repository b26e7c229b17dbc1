/-
  Plain lemmas on the pure functions of package hist. Conditions: as said.
-/
import Derived.Test.YtbfndihcbogjfaaDoorF
import Derived.Test.YtbfndihcbogjfaaDoorO
import Derived.IntWalk
namespace Go.Proofs.YtbfndihcbogjfaaDoor
open Go Go.RowKit Gx

theorem w64_id {n : Int} (h : -9223372036854775808 ≤ n ∧ n ≤ 9223372036854775807) : w64 n = n := IntWalk.i64_in n h
theorem ix_nat {α : Type} (xs : List α) (n : Nat) : ix xs (n : Int) = xs[n]? := by simp [ix]
theorem app_ok {α : Type} {xs ys : List α} (h : xs.length + ys.length ≤ lim) : app xs ys = some (xs ++ ys) := if_pos h
theorem wfI64 {n : Int} (h : wfI .i64 n) : -9223372036854775808 ≤ n ∧ n ≤ 9223372036854775807 := by
  have h : (decide (IntKind.i64.min ≤ n) && decide (n ≤ IntKind.i64.max)) = true := h
  simp only [Bool.and_eq_true, decide_eq_true_eq] at h
  exact h
section
variable {α : Type} {l pre suf : List α} {e : α}
theorem at_ (h : l = pre ++ e :: suf) : ix l (pre.length : Int) = some e := by subst h; rw [ix_nat]; simp
theorem lt_ (h : l = pre ++ e :: suf) : decide ((pre.length : Int) < (l.length : Int)) = true := by subst h; simp; omega
theorem nlt_ (h : l = pre ++ []) : ¬ decide ((pre.length : Int) < (l.length : Int)) = true := by subst h; simp
theorem nx_ (h : l = pre ++ e :: suf) (hl : l.length ≤ 1000000) : w64 ((pre.length : Int) + 1) = ((pre ++ [e]).length : Int) := by
  subst h
  simp only [List.length_append, List.length_cons, List.length_nil] at hl ⊢
  rw [w64_id (by omega)]
  omega
theorem sh_ (h : l = pre ++ e :: suf) : l = (pre ++ [e]) ++ suf := by rw [h]; simp
end
def isK (q : Int) (e : TEvent) : Bool := (e.kind == 2) && (e.note.kind == q)
def ords (l : List TEvent) (q : Int) : List Int := (l.filter (isK q)).map (·.thread)
theorem order_l0 (l : List TEvent) (q : Int) (hl : l.length ≤ 1000000) : ∀ (suf pre : List TEvent) (k : Nat) (acc : List Int), l = pre ++ suf → suf.length < k → acc.length ≤ pre.length → hist_Order.l0 l q k (pre.length : Int) acc = some (acc ++ ords suf q) := by
  intro suf
  induction suf with
  | nil =>
    intro pre k acc h hk ha
    obtain ⟨k, rfl⟩ : ∃ k', k = k' + 1 := ⟨k - 1, by omega⟩
    rw [hist_Order.l0, if_neg (nlt_ h)]
    simp [ords]
  | cons e suf ih =>
    intro pre k acc h hk ha
    obtain ⟨k, rfl⟩ : ∃ k', k = k' + 1 := ⟨k - 1, by omega⟩
    simp only [List.length_cons] at hk
    have hp : pre.length ≤ l.length := by rw [h]; simp
    rw [hist_Order.l0, if_pos (lt_ h), at_ h, nx_ h hl]
    simp only [Option.bind_some]
    by_cases hc : ((e.kind == 2) && (e.note.kind == q)) = true
    · rw [if_pos hc, app_ok (by simp [lim]; omega)]
      simp only [Option.bind_some]
      rw [ih (pre ++ [e]) k _ (sh_ h) (by omega) (by simp; omega)]
      have : isK q e = true := hc
      simp [ords, this]
    · rw [if_neg hc, ih (pre ++ [e]) k _ (sh_ h) (by omega) (by simp; omega)]
      have : isK q e = false := by simpa [isK] using hc
      simp [ords, this]
theorem order_eq (l : List TEvent) (q : Int) (hl : l.length ≤ 1000000) {k : Nat} (hk : l.length < k) : hist_Order k l q = some (ords l q) := by
  have := order_l0 l q hl l [] k [] rfl hk (Nat.le_refl _)
  rw [show ((([] : List TEvent).length : Nat) : Int) = 0 from rfl] at this
  rw [hist_Order, this]
  rfl
theorem marks_eq (l : List TEvent) (q : Int) (hl : l.length ≤ 1000000) {k : Nat} (hk : l.length < k) : hist_Marks k l q = some ((ords l q).length : Int) := by
  rw [hist_Marks, order_eq l q hl hk]
  rfl
end Go.Proofs.YtbfndihcbogjfaaDoor
