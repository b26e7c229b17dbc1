/-
  Plain: the law ModelDoes of the pure functions. Conditions: none but what each argument's type asks.
-/
import Derived.Test.YtbfndihcbogjfaaP5
namespace Go.Proofs.Ytbfndihcbogjfaa
open Go Go.RowKit Gx

/-- what is asked of a thing here -/
structure Li (x : TThing) : Prop where
  len : x.waiters.length ≤ 100
  n : -1000000 ≤ x.n ∧ x.n ≤ 1000000
  h : -1000000 ≤ x.holds ∧ x.holds ≤ 1000000
  r : ∀ i, 0 ≤ i ∧ i < 8 → -1000000 ≤ x.reads.get i ∧ x.reads.get i ≤ 1000000
theorem li_of {x : TThing} (h : lightB x = true) : Li x := by
  simp only [lightB, decide_eq_true_eq] at h
  obtain ⟨a, b, c, d, l, r0, r1, r2, r3, r4, r5, r6, r7⟩ := h
  refine ⟨l, ⟨a, b⟩, ⟨c, d⟩, fun i hi => ?_⟩
  obtain rfl | rfl | rfl | rfl | rfl | rfl | rfl | rfl : i = 0 ∨ i = 1 ∨ i = 2 ∨ i = 3 ∨ i = 4 ∨ i = 5 ∨ i = 6 ∨ i = 7 := by omega
  · exact r0
  · exact r1
  · exact r2
  · exact r3
  · exact r4
  · exact r5
  · exact r6
  · exact r7
def Both (x : TThing) (p q : Option (TThing × Bool)) : Prop := ∃ y b, p = some (y, b) ∧ q = some (y, b) ∧ y.waiters.length ≤ x.waiters.length + 1
theorem both_of {x : TThing} {t : Int} {m : TNote} {k : Nat} {p q : Option (TThing × Bool)} (hl : x.waiters.length ≤ 1000000) (ht : 0 ≤ t ∧ t < 8) (hm : m.kind ≠ 17) (a : Agree x p q) (hp : model_done k x t m = p.bind fun r => some (r.1, r.2)) (hq : tholeref10_Do k x t m = q.bind fun r => some (r.1, r.2)) : Both x (model_Do k x t m) (tholeref10_Do k x t m) := by
  obtain ⟨y, b, rfl, rfl, hw⟩ := a
  rw [Do_eq t m hl, if_neg (by omega), if_neg hm, hp, hq]
  cases b with
  | true => exact ⟨y, true, rfl, rfl, hw⟩
  | false => exact ⟨x, false, rfl, rfl, by omega⟩
theorem latch_agree {x : TThing} {mk mv : Int} : Agree x (model_latch x ⟨mk, mv⟩) (if mk == 1 then some (x, (x.n == 0) && (mv == 0)) else if (mk == 8) && (((mv == 1) && (decide (0 < x.n))) || ((mv == 0) && (x.n == 0))) then some ({ x with n := w64 (x.n - mv) }, true) else some (x, false)) := by
  rw [model_latch]
  by_cases h1 : mk = 1
  · subst h1; exact agree_same rfl rfl
  by_cases h8 : mk = 8
  · subst h8
    by_cases c1 : mv = 1
    · subst c1
      have e : bAnd .i64 1 1 = 1 := by decide
      simp only [e]
      by_cases c : 0 < x.n
      · exact agree_yes (y := { x with n := w64 (x.n - 1) }) (by simp [c]) (by simp [c])
      · exact agree_no (y := { x with n := w64 (x.n - 1) }) (by simp; omega) (by simp; omega)
    by_cases c0 : mv = 0
    · subst c0
      have e : bAnd .i64 0 1 = 0 := by decide
      simp only [e]
      by_cases c : x.n = 0
      · exact agree_yes (y := { x with n := w64 (x.n - 0) }) (by simp [c]) (by simp [c])
      · exact agree_no (y := { x with n := w64 (x.n - 0) }) (by simp [c]) (by simp [c])
    · exact agree_no (y := { x with n := w64 (x.n - bAnd .i64 mv 1) }) (by simp [c1, c0]) (by simp [c1, c0])
  · exact agree_no (y := x) (by simp [h1, h8]) (by simp [h1, h8])
theorem do_both {x : TThing} (o : Li x) (t : Int) (m : TNote) {k : Nat} (hk : 500 ≤ k) : Both x (model_Do k x t m) (tholeref10_Do k x t m) := by
  have hl : x.waiters.length ≤ 1000000 := Nat.le_trans o.len (by decide)
  by_cases ht : t < 0 ∨ 8 ≤ t
  · refine ⟨x, false, by rw [Do_eq t m hl, if_pos ht], ?_, by omega⟩
    rw [tholeref10_Do, if_pos]
    simp; omega
  have ht : 0 ≤ t ∧ t < 8 := by omega
  by_cases hkd : x.kind < 1 ∨ 5 < x.kind
  · have hr : tholeref10_Do k x t m = some (x, false) := by
      rw [tholeref10_Do, if_pos]
      simp; omega
    refine ⟨x, false, ?_, hr, by omega⟩
    rw [Do_eq t m hl, if_neg (by omega)]
    by_cases hm : m.kind = 17
    · rw [if_pos hm]
      have : ((decide (1 ≤ x.kind)) && (decide (x.kind ≤ 5))) = false := by simp; omega
      rw [Bool.and_assoc, this, Bool.and_false]
    · rw [if_neg hm, done_kind (by omega)]; rfl
  have hg : ¬ ((((decide (t < 0)) || (decide (7 < t))) || (decide (x.kind < 1))) || (decide (5 < x.kind))) = true := by simp; omega
  by_cases hm : m.kind = 17
  · refine ⟨x, m.value == 0, ?_, ?_, by omega⟩
    · rw [Do_eq t m hl, if_neg (by omega), if_pos hm]
      have a : decide (1 ≤ x.kind) = true := by simp; omega
      have b : decide (x.kind ≤ 5) = true := by simp; omega
      rw [a, b]; simp
    · rw [tholeref10_Do, if_neg hg, if_pos (by simpa using hm)]
  obtain ⟨mk, mv⟩ := m
  have hm' : ¬ mk = 17 := hm
  by_cases h1 : x.kind = 1
  · refine both_of hl ht hm (lock_agree (t := t) (mk := mk) (mv := mv) o.len o.h hk) ?_ ?_
    · rw [model_done]; simp [h1]
    · rw [tholeref10_Do, if_neg hg]; simp [h1, hm']
  by_cases h2 : x.kind = 2
  · refine both_of hl ht hm (sema_agree (mk := mk) (mv := mv) o.n) ?_ ?_
    · rw [model_done]; simp [h2]
    · rw [tholeref10_Do, if_neg hg]; simp [h2, hm']
  by_cases h3 : x.kind = 3
  · refine both_of hl ht hm (latch_agree (mk := mk) (mv := mv)) ?_ ?_
    · rw [model_done]; simp [h3]
    · rw [tholeref10_Do, if_neg hg, if_neg (by simpa using hm'), if_neg (by simp [h3]), if_neg (by simp [h3]), if_pos (by simp [h3])]
      by_cases a : (mk == 1) = true
      · rw [if_pos a]; rfl
      · rw [if_neg a]
        by_cases b : (mk == 8 && (mv == 1 && decide (0 < x.n) || mv == 0 && x.n == 0)) = true
        · rw [if_pos b]; rfl
        · rw [if_neg b]; rfl
  by_cases h4 : x.kind = 4
  · refine both_of hl ht hm (rw_agree (mk := mk) (mv := mv) ht o.h (o.r t ht) hk) ?_ ?_
    · rw [model_done]; simp [h4]
    · rw [tholeref10_Do, if_neg hg]; simp [h4, hm']
  · have h5 : x.kind = 5 := by omega
    refine both_of hl ht hm (swap_agree (t := t) (mk := mk) (mv := mv)) ?_ ?_
    · rw [model_done]; simp [h5]
    · rw [tholeref10_Do, if_neg hg]; simp [h5, hm']
theorem can_both {x : TThing} (o : Li x) (t : Int) (c : TOp) {k : Nat} (hk : 500 ≤ k) : ∃ b, model_Can k x t c = some b ∧ tholeref10_Can k x t c = some b := by
  have hl : x.waiters.length ≤ 1000000 := Nat.le_trans o.len (by decide)
  by_cases ht : t < 0 ∨ 8 ≤ t
  · refine ⟨false, ?_, ?_⟩
    · have hd : ∀ m, model_Do k x t m = some (x, false) := fun m => by rw [Do_eq t m hl, if_pos ht]
      rw [model_Can]
      simp only [hd, Option.bind_some]
      have : ¬ (0 ≤ t ∧ t < 8) := by omega
      have e : (decide (0 ≤ t) && decide (t < 8)) = false := by simp; omega
      split <;> try rfl
      split <;> try rfl
      split <;> try rfl
      split <;> try rfl
      split <;> try rfl
      split <;> try rfl
      rw [Bool.and_assoc (x.kind == 5), e]; simp
    · rw [tholeref10_Can, if_pos]
      simp; omega
  have hg : ¬ ((decide (t < 0)) || (decide (7 < t))) = true := by simp; omega
  have a : decide (0 ≤ t) = true := by simp; omega
  have b : decide (t < 8) = true := by simp; omega
  have key : ∀ (m : TNote) (kd : Int), ∃ b, ((model_Do k x t m).bind fun r => some (r.2 && (x.kind == kd))) = some b ∧ ((tholeref10_Do k x t m).bind fun r => some ((x.kind == kd) && r.2)) = some b := fun m kd => by
    obtain ⟨y, b, e1, e2, _⟩ := do_both o t m hk
    refine ⟨b && (x.kind == kd), by rw [e1]; rfl, by rw [e2]; simp only [Option.bind_some]; rw [Bool.and_comm]⟩
  rw [model_Can, tholeref10_Can, if_neg hg]
  by_cases h1 : c.kind = 1
  · simpa [h1] using key ⟨1, 1⟩ 1
  by_cases h4 : c.kind = 4
  · simpa [h4] using key ⟨1, c.n⟩ 2
  by_cases h8 : c.kind = 8
  · simpa [h8] using key ⟨1, 0⟩ 3
  by_cases h13 : c.kind = 13
  · simpa [h13] using key ⟨1, 1⟩ 4
  by_cases h10 : c.kind = 10
  · simpa [h10] using key ⟨2, 0⟩ 4
  by_cases h19 : c.kind = 19
  · refine ⟨((x.kind == 5) && (x.offer != (-1))) && (x.offer != t), ?_, ?_⟩
    · simp only [h19, a, b]; simp
    · simp only [h19]; simp
  · simpa [h1, h4, h8, h13, h10, h19] using key ⟨1, 0⟩ 0
theorem new_eq (o : TObject) : model_New o = some ⟨o.kind, o.n, -1, 0, Arr8.zero, [], -1, 0⟩ ∧ tholeref10_New o = some ⟨o.kind, o.n, -1, 0, Arr8.zero, [], -1, 0⟩ := ⟨rfl, rfl⟩
theorem copy_eq {x : TThing} (hl : x.waiters.length ≤ 1000000) : tholeref10_Copy x = some x := by
  rw [tholeref10_Copy, app_ok (by simp [lim]; omega)]
  simp
theorem told2 (x0 : TObject) (x1 : TThing) (x2 : Int) (x3 : TNote) (x4 : TOp) : tholelaw10_ModelDoes 600 x0 x1 x2 x3 x4 = some true := by
  rw [tholelaw10_ModelDoes, up_eq 599]
  simp only [Option.bind_some]
  rw [light_eq x1 591]
  simp only [Option.bind_some]
  cases hL : lightB x1 with
  | false => rfl
  | true =>
    have o := li_of hL
    have hl : x1.waiters.length ≤ 1000000 := Nat.le_trans o.len (by decide)
    rw [if_neg (by simp), (new_eq x0).1, (new_eq x0).2]
    simp only [Option.bind_some]
    rw [same_refl _ (by simp) (by simp)]
    simp only [Option.bind_some]
    rw [if_neg (by simp), copy_eq hl]
    obtain ⟨y, b, e1, e2, hw⟩ := do_both o x2 x3 (k := 600) (by omega)
    simp only [Option.bind_some, e1, e2]
    have hlen := o.len
    rw [same_refl y (by omega) (by omega)]
    obtain ⟨c, c1, c2⟩ := can_both o x2 x4 (k := 600) (by omega)
    simp [c1, c2]
theorem told (x0 : TObject) (x1 : TThing) (x2 : Int) (x3 : TNote) (x4 : TOp) (_ : TObject.wf x0) (_ : TThing.wf x1) (_ : wfI .i64 x2) (_ : TNote.wf x3) (_ : TOp.wf x4) : ∃ k, tholelaw10_ModelDoes k x0 x1 x2 x3 x4 = some true := ⟨600, told2 x0 x1 x2 x3 x4⟩
end Go.Proofs.Ytbfndihcbogjfaa
