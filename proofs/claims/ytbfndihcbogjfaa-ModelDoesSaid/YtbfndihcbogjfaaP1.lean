/-
  Plain lemmas on the pure functions of package model. Conditions: as said.
-/
import Derived.Test.YtbfndihcbogjfaaF
import Derived.Test.YtbfndihcbogjfaaO
import Derived.IntWalk
namespace Go.Proofs.Ytbfndihcbogjfaa
open Go Go.RowKit Gx

theorem w64_id {n : Int} (h : -9223372036854775808 ≤ n ∧ n ≤ 9223372036854775807) : w64 n = n := IntWalk.i64_in n h
theorem ix_nat {α : Type} (xs : List α) (n : Nat) : ix xs (n : Int) = xs[n]? := by simp [ix]
theorem app_ok {α : Type} {xs ys : List α} (h : xs.length + ys.length ≤ lim) : app xs ys = some (xs ++ ys) := if_pos h
theorem wfI64 {n : Int} (h : wfI .i64 n) : -9223372036854775808 ≤ n ∧ n ≤ 9223372036854775807 := by
  have h : (decide (IntKind.i64.min ≤ n) && decide (n ≤ IntKind.i64.max)) = true := h
  simp only [Bool.and_eq_true, decide_eq_true_eq] at h
  exact h

theorem idxF {f : TWaiter → Option Bool} {p : TWaiter → Bool} (hf : ∀ y, f y = some (p y)) (x0 : List TWaiter) (hl : x0.length ≤ 1000000) : ∀ (suf pre : List TWaiter) (k : Nat), x0 = pre ++ suf → suf.length < k →
    slices_IndexFunc_Waiter.l0 x0 f k (pre.length : Int) = some (match suf.findIdx? p with | some j => .ret ((pre.length + j : Nat) : Int) | none => .go ()) := by
  intro suf
  induction suf with
  | nil =>
    intro pre k e hk
    obtain ⟨k, rfl⟩ : ∃ m, k = m + 1 := ⟨k - 1, by simp at hk; omega⟩
    subst e
    simp [slices_IndexFunc_Waiter.l0]
  | cons y suf ih =>
    intro pre k e hk
    obtain ⟨k, rfl⟩ : ∃ m, k = m + 1 := ⟨k - 1, by simp at hk; omega⟩
    have hlt : (pre.length : Int) < (x0.length : Int) := by subst e; simp; omega
    have hg : x0[pre.length]? = some y := by subst e; simp
    rw [slices_IndexFunc_Waiter.l0, if_pos (by simpa using hlt), ix_nat, hg]
    simp only [Option.bind_some, hf]
    by_cases hp : p y = true
    · simp [hp, List.findIdx?_cons]
    · rw [if_neg hp]
      have e2 : w64 ((pre.length : Int) + 1) = ((pre ++ [y]).length : Int) := by
        rw [w64_id]
        · simp
        · have : (pre.length : Int) < 1000000 := by omega
          omega
      rw [e2, ih (pre ++ [y]) k (by simp [e]) (by simp at hk; omega)]
      simp only [List.findIdx?_cons, hp]
      cases suf.findIdx? p <;> simp; omega
theorem idxF_eq {f : TWaiter → Option Bool} {p : TWaiter → Bool} (hf : ∀ y, f y = some (p y)) {x0 : List TWaiter} (hl : x0.length ≤ 1000000) {k : Nat} (hk : x0.length < k) :
    slices_IndexFunc_Waiter k x0 f = some (match x0.findIdx? p with | some j => (j : Int) | none => -1) := by
  have := idxF hf x0 hl x0 [] k rfl hk
  simp only [List.length_nil, Int.natCast_zero] at this
  rw [slices_IndexFunc_Waiter, this]
  cases x0.findIdx? p <;> simp [Lp.k]
theorem waits_eq {x : TThing} (t : Int) (hl : x.waiters.length ≤ 1000000) {k : Nat} (hk : x.waiters.length < k) : model_waits k x t = some (x.waiters.any fun y => y.thread == t) := by
  rw [model_waits, slices_ContainsFunc_Waiter, idxF_eq (f := fun y0 => model_waits_1 y0 t) (p := fun y => y.thread == t) (fun y => rfl) hl hk]
  simp only [Option.bind_some]
  congr 1
  cases h : x.waiters.findIdx? (fun y => y.thread == t) with
  | none =>
    rw [List.findIdx?_eq_none_iff] at h
    simp
    intro y hy
    simpa using h y hy
  | some j =>
    obtain ⟨hj, h1, _⟩ := List.findIdx?_eq_some_iff_getElem.1 h
    simp
    exact ⟨_, List.getElem_mem hj, by simpa using h1⟩
theorem clone_eq {xs : List TWaiter} (hl : xs.length ≤ 1000000) : slices_Clone_Waiter xs = some xs := by
  rw [slices_Clone_Waiter, app_ok (by simp [lim]; omega)]
  simp
theorem Do_eq {x : TThing} (t : Int) (m : TNote) (hl : x.waiters.length ≤ 1000000) (k : Nat) : model_Do k x t m =
    if t < 0 ∨ 8 ≤ t then some (x, false) else if m.kind = 17 then some (x, ((m.value == 0) && (decide (1 ≤ x.kind))) && (decide (x.kind ≤ 5))) else (model_done k x t m).bind fun r => if r.2 then some (r.1, true) else some (x, false) := by
  rw [model_Do, clone_eq hl]
  simp
/-- what is light: read off -/
def lightB (x : TThing) : Bool := decide (-1000000 ≤ x.n ∧ x.n ≤ 1000000 ∧ -1000000 ≤ x.holds ∧ x.holds ≤ 1000000 ∧ x.waiters.length ≤ 100 ∧
  (-1000000 ≤ x.reads.a0 ∧ x.reads.a0 ≤ 1000000) ∧ (-1000000 ≤ x.reads.a1 ∧ x.reads.a1 ≤ 1000000) ∧ (-1000000 ≤ x.reads.a2 ∧ x.reads.a2 ≤ 1000000) ∧ (-1000000 ≤ x.reads.a3 ∧ x.reads.a3 ≤ 1000000) ∧
  (-1000000 ≤ x.reads.a4 ∧ x.reads.a4 ≤ 1000000) ∧ (-1000000 ≤ x.reads.a5 ∧ x.reads.a5 ≤ 1000000) ∧ (-1000000 ≤ x.reads.a6 ∧ x.reads.a6 ≤ 1000000) ∧ (-1000000 ≤ x.reads.a7 ∧ x.reads.a7 ≤ 1000000))
theorem gif (b c : Bool) : (if b then some c else some false) = some (b && c) := by cases b <;> rfl
theorem light_step (x : TThing) (k : Nat) (b : Bool) (i : Int) (h : 0 ≤ i ∧ i < 8) : tholelaw10_light.l0 x (k + 1) b i = tholelaw10_light.l0 x k (b && decide (-1000000 ≤ x.reads.get i) && decide (x.reads.get i ≤ 1000000)) (i + 1) := by
  rw [tholelaw10_light.l0, if_pos (by simpa using h.2)]
  simp only [if_pos h, gif, Option.bind_some]
  rw [w64_id (by omega)]
theorem light_eq (x : TThing) (k : Nat) : tholelaw10_light (k + 9) x = some (lightB x) := by
  rw [tholelaw10_light]
  rw [light_step x (k + 8) _ 0 (by omega), light_step x (k + 7) _ _ (by omega), light_step x (k + 6) _ _ (by omega), light_step x (k + 5) _ _ (by omega), light_step x (k + 4) _ _ (by omega), light_step x (k + 3) _ _ (by omega), light_step x (k + 2) _ _ (by omega), light_step x (k + 1) _ _ (by omega)]
  rw [tholelaw10_light.l0]
  have e : ((x.waiters.length : Int) ≤ 100) ↔ x.waiters.length ≤ 100 := by omega
  simp [lightB, Arr8.get, Bool.and_assoc, e]
end Go.Proofs.Ytbfndihcbogjfaa
