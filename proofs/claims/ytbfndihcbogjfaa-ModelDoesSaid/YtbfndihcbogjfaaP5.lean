/-
  Plain: package model does what the document's answer does. Conditions: the counts are light.
-/
import Derived.Test.YtbfndihcbogjfaaP4
namespace Go.Proofs.Ytbfndihcbogjfaa
open Go Go.RowKit Gx

/-- two answers are one: what may not be leaves the thing as it was -/
def Agree (x : TThing) (p q : Option (TThing × Bool)) : Prop := ∃ y b, p = some (y, b) ∧ q = some (if b then y else x, b) ∧ y.waiters.length ≤ x.waiters.length + 1
theorem agree_same {x : TThing} {b : Bool} {p q : Option (TThing × Bool)} (hp : p = some (x, b)) (hq : q = some (x, b)) : Agree x p q := ⟨x, b, hp, by rw [hq]; cases b <;> rfl, by omega⟩
theorem agree_no {x y : TThing} {p q : Option (TThing × Bool)} (hp : p = some (y, false)) (hq : q = some (x, false)) (h : y.waiters.length ≤ x.waiters.length + 1 := by first | (simp; done) | exact Nat.le_succ_of_le (List.length_filter_le _ _) | (simp_all; done) | (simp_all; omega)) : Agree x p q := ⟨y, false, hp, hq, h⟩
theorem agree_yes {x y : TThing} {p q : Option (TThing × Bool)} (hp : p = some (y, true)) (hq : q = some (y, true)) (h : y.waiters.length ≤ x.waiters.length + 1 := by first | (simp; done) | exact Nat.le_succ_of_le (List.length_filter_le _ _) | (simp_all; done) | (simp_all; omega)) : Agree x p q := ⟨y, true, hp, hq, h⟩
theorem posd (l : List TWaiter) (t : Int) : decide (pos l t < 0) = !(l.any fun y => y.thread == t) := by
  cases h : (l.any fun y => y.thread == t) with
  | false => simpa using pos_neg.2 h
  | true =>
    have : ¬ pos l t < 0 := fun h' => by rw [pos_neg.1 h'] at h; cases h
    simpa using this
theorem free_some (x : TThing) : ∃ y, model_free x = some y ∧ tholeref10_freed x = some y ∧ y.waiters = x.waiters := by
  rw [model_free, tholeref10_freed]
  split <;> exact ⟨_, rfl, rfl, rfl⟩
theorem lock_agree {x : TThing} {t : Int} {mk mv : Int} (hl : x.waiters.length ≤ 100) (hh : -1000000 ≤ x.holds ∧ x.holds ≤ 1000000) {k : Nat} (hk : 500 ≤ k) : Agree x (model_lock k x t ⟨mk, mv⟩) (tholeref10_lock k x t mk mv) := by
  have hl6 : x.waiters.length ≤ 1000000 := Nat.le_trans hl (by decide)
  have hlk : x.waiters.length < k := by omega
  have e1 : w64 (x.holds + 1) = x.holds + 1 := w64_id (by omega)
  by_cases h1 : mk = 1
  · subst h1
    rw [model_lock, tholeref10_lock, waits_eq t hl6 hlk, place_eq t hl6 hlk]
    have g3 : decide (x.holds + 1 ≤ 1000) = decide (x.holds < 1000) := by
      by_cases h : x.holds < 1000
      · simp [h]; omega
      · simp [h]; omega
    simp only [Option.bind_some, posd, e1, g3]
    generalize (x.waiters.any fun y => y.thread == t) = an
    generalize (((x.owner == (-1)) && (decide (1 ≤ mv))) && (decide (mv ≤ 1000))) = c1
    generalize (((x.owner == t) && (mv == 1)) && (decide (x.holds < 1000))) = d
    cases c1 <;> cases an <;> cases d <;> first | exact agree_yes rfl rfl | exact agree_no rfl rfl
  by_cases h3 : mk = 3
  · subst h3
    obtain ⟨y, f1, f2, fw⟩ := free_some x
    rw [model_lock, tholeref10_lock, f1, f2]
    simp only [Option.bind_some]
    generalize ((x.owner == t) && (mv == 0)) = c
    cases c with
    | true => exact agree_yes (y := y) rfl rfl (by rw [fw]; omega)
    | false => exact agree_no (y := y) rfl rfl (by rw [fw]; omega)
  by_cases h5 : mk = 5
  · subst h5; exact agree_same (by rw [model_lock]; rfl) (by rw [tholeref10_lock]; rfl)
  by_cases h6 : mk = 6
  · subst h6; exact agree_same (by rw [model_lock]; rfl) (by rw [tholeref10_lock]; rfl)
  by_cases h7 : mk = 7
  · subst h7; exact agree_same (by rw [model_lock]; rfl) (by rw [tholeref10_lock]; rfl)
  by_cases h10 : mk = 10
  · subst h10
    have a1 : app x.waiters [(⟨t, x.holds⟩ : TWaiter)] = some (x.waiters ++ [⟨t, x.holds⟩]) := app_ok (by simp [lim]; omega)
    have a2 : app [] x.waiters = some x.waiters := app_ok (by simp [lim]; omega)
    rw [model_lock, tholeref10_lock, a2]
    simp only [Option.bind_some]
    rw [a1]
    by_cases hd : x.owner = t ∧ mv = x.holds
    · exact agree_yes (y := { x with owner := -1, holds := 0, waiters := x.waiters ++ [⟨t, x.holds⟩] }) (by simp [hd]) (by simp [hd])
    · refine agree_no (y := { x with owner := -1, holds := 0, waiters := x.waiters ++ [⟨t, x.holds⟩] }) (by simp; intro a b; exact hd ⟨a, b.symm⟩) (by simp; intro a b; exact absurd ⟨a, b⟩ hd)
  rw [model_lock, model_signal]
  simp only [h1, h3, h5, h6, h7, h10]
  by_cases h11 : mk = 11
  · subst h11
    cases hw : x.waiters with
    | nil => exact agree_no (y := x) (by simp [hw]) (by rw [tholeref10_lock]; simp [hw])
    | cons w ws =>
      have s1 : slc (w :: ws) 1 ((w :: ws).length : Int) = some ws := by simp [slc]; omega
      have s2 : tholeref10_without k (w :: ws) 0 = some ws := by
        have := without_eq (l := w :: ws) 0 (by rw [← hw]; omega) (k := k) (by rw [← hw]; omega)
        simpa using this
      have i0 : ix (w :: ws) 0 = some w := rfl
      have nz : ¬ ((ws.length : Int) + 1 = 0) := by omega
      have s1 : slc (w :: ws) 1 ((ws.length : Int) + 1) = some ws := by simpa using s1
      by_cases hd : x.owner = t ∧ mv = w.thread
      · refine agree_yes (y := { x with waiters := ws }) ?_ ?_
        · simp [hw, hd, i0, s1, nz]
        · rw [tholeref10_lock]; simp [hw, hd, i0, s2]
      · refine agree_no (y := x) ?_ ?_
        · by_cases a : x.owner = t
          · have : ¬ w.thread = mv := fun b => hd ⟨a, b.symm⟩
            simp [hw, a, i0, this, nz]
          · simp [hw, a]
        · rw [tholeref10_lock]
          by_cases a : x.owner = t
          · have : ¬ mv = w.thread := fun b => hd ⟨a, b⟩
            simp [hw, a, i0, this]
          · simp [hw, a]
  by_cases h12 : mk = 12
  · subst h12; exact agree_same (by simp; rfl) (by rw [tholeref10_lock]; rfl)
  by_cases h13 : mk = 13
  · subst h13
    have hp : ∀ b : Bool, (if b = true then some true else some false) = some b := fun b => by cases b <;> rfl
    rw [waits_eq t hl6 hlk, del_eq (f := fun y0 => model_signal_1 y0 t) (p := fun y => y.thread == t) (fun y => rfl) hl6 hlk, tholeref10_lock, place_eq t hl6 hlk]
    have hL := lockL x t _ x.waiters k rfl hl6 (by omega)
    have hd : decide (0 ≤ pos x.waiters t) = (x.waiters.any fun y => y.thread == t) := by
      have := posd x.waiters t
      cases h : (x.waiters.any fun y => y.thread == t) <;> simp [h] at this ⊢ <;> omega
    simp only [Option.bind_some, hL, hd]
    cases hc : ((x.waiters.any fun y => y.thread == t) && (mv == 0)) with
    | true => exact agree_yes (y := { x with waiters := x.waiters.filter fun y => !(y.thread == t) }) (by simp) (by simp)
    | false => exact agree_no (y := { x with waiters := x.waiters.filter fun y => !(y.thread == t) }) (by simp) (by simp)
  · exact agree_no (y := x) (by simp [h1, h3, h5, h6, h7, h10, h11, h12, h13]) (by rw [tholeref10_lock]; simp [h1, h3, h5, h6, h7, h10, h11, h12, h13])
theorem sema_agree {x : TThing} {mk mv : Int} (hn : -1000000 ≤ x.n ∧ x.n ≤ 1000000) : Agree x (model_sema x ⟨mk, mv⟩) (tholeref10_sema x mk mv) := by
  rw [model_sema, tholeref10_sema]
  have e : w64 (1000 - x.n) = 1000 - x.n := w64_id (by omega)
  simp only [e]
  by_cases h1 : mk = 1
  · subst h1
    have a : (!decide (1 ≤ mv) || decide (x.n < mv)) = !(decide (1 ≤ mv) && decide (mv ≤ x.n)) := by
      by_cases p : 1 ≤ mv <;> by_cases q : mv ≤ x.n <;> simp [p, q] <;> omega
    simp only [a]
    generalize (decide (1 ≤ mv) && decide (mv ≤ x.n)) = c
    cases c with
    | true => exact agree_yes rfl rfl
    | false => exact agree_no rfl rfl
  by_cases h3 : mk = 3
  · subst h3
    have a : (!decide (1 ≤ mv) || decide (1 ≤ mv) && decide (1000 - x.n < mv)) = !(decide (1 ≤ mv) && decide (mv ≤ 1000 - x.n)) := by
      by_cases p : 1 ≤ mv <;> by_cases q : mv ≤ 1000 - x.n <;> simp [p, q] <;> omega
    simp only [a]
    generalize (decide (1 ≤ mv) && decide (mv ≤ 1000 - x.n)) = c
    cases c with
    | true => exact agree_yes rfl rfl
    | false => exact agree_no rfl rfl
  by_cases h5 : mk = 5
  · subst h5; exact agree_same rfl rfl
  by_cases h7 : mk = 7
  · subst h7; exact agree_same rfl rfl
  by_cases h9 : mk = 9
  · subst h9
    show Agree x (some ({ x with n := 0 }, mv == x.n)) (if (mv == x.n) = true then some ({ x with n := 0 }, true) else some (x, false))
    generalize (mv == x.n) = c
    cases c with
    | true => exact agree_yes rfl rfl
    | false => exact agree_no rfl rfl
  · exact agree_no (y := x) (by simp [h1, h3, h5, h7, h9]) (by simp [h1, h3, h5, h7, h9])
theorem swap_agree {x : TThing} {t mk mv : Int} : Agree x (model_swap x t ⟨mk, mv⟩) (tholeref10_swap x t mk mv) := by
  rw [model_swap, tholeref10_swap]
  by_cases h15 : mk = 15
  · subst h15
    have a : (x.offer != -1 || decide (mv < 0) || decide (1000 < mv)) = !(x.offer == -1 && decide (0 ≤ mv) && decide (mv ≤ 1000)) := by
      have h1 : decide (mv < 0) = !decide (0 ≤ mv) := by
        by_cases p : 0 ≤ mv
        · simp [p]
        · simp [p]; omega
      have h2 : decide (1000 < mv) = !decide (mv ≤ 1000) := by
        by_cases p : mv ≤ 1000
        · simp [p]
        · simp [p]; omega
      have h3 : (x.offer != -1) = !(x.offer == -1) := rfl
      rw [h1, h2, h3]
      generalize (x.offer == -1) = A
      generalize decide (0 ≤ mv) = B
      generalize decide (mv ≤ 1000) = C
      cases A <;> cases B <;> cases C <;> rfl
    simp only [a]
    generalize (x.offer == -1 && decide (0 ≤ mv) && decide (mv ≤ 1000)) = c
    cases c with
    | true => exact agree_yes rfl rfl
    | false => exact agree_no rfl rfl
  by_cases h14 : mk = 14
  · subst h14
    simp only []
    generalize (x.offer != -1 && x.offer != t && mv == x.offer) = c
    cases c with
    | true => exact agree_yes rfl rfl
    | false => exact agree_no rfl rfl
  by_cases h16 : mk = 16
  · subst h16
    simp only []
    generalize (x.offer == t && mv == 0) = c
    cases c with
    | true => exact agree_yes rfl rfl
    | false => exact agree_no rfl rfl
  · exact agree_no (y := x) (by simp [h15, h14, h16]) (by simp [h15, h14, h16])
theorem reads_same (x : TThing) : ∀ (k : Nat) (s i : Int), model_reads.l0 x k s i = tholeref10_Reads.l0 x k s i := by
  intro k
  induction k with
  | zero => intro s i; rfl
  | succ k ih => intro s i; rw [model_reads.l0, tholeref10_Reads.l0, ih]
theorem reads_ref (x : TThing) (k : Nat) : tholeref10_Reads k x = model_reads k x := by rw [tholeref10_Reads, model_reads, reads_same]
theorem rw_agree {x : TThing} {t mk mv : Int} (ht : 0 ≤ t ∧ t < 8) (hh : -1000000 ≤ x.holds ∧ x.holds ≤ 1000000) (hr : -1000000 ≤ x.reads.get t ∧ x.reads.get t ≤ 1000000) {k : Nat} (hk : 500 ≤ k) : Agree x (model_rw k x t ⟨mk, mv⟩) (tholeref10_rw k x t mk mv) := by
  obtain ⟨s, hs⟩ := reads_eq x (k - 9)
  rw [show k - 9 + 9 = k by omega] at hs
  rw [model_rw, tholeref10_rw, reads_ref, hs]
  simp only [Option.bind_some, if_pos ht]
  by_cases h1 : mk = 1
  · subst h1
    generalize (mv == 1 && (x.owner == -1 && s == 0 || x.owner == t && decide (x.holds < 1000))) = c
    cases c with
    | true => exact agree_yes rfl rfl
    | false => exact agree_no rfl rfl
  by_cases h3 : mk = 3
  · subst h3
    obtain ⟨y, f1, f2, fw⟩ := free_some x
    simp only [f1, f2, Option.bind_some]
    generalize (x.owner == t && mv == 0) = c
    cases c with
    | true => exact agree_yes (y := y) rfl rfl (by rw [fw]; omega)
    | false => exact agree_no (y := y) rfl rfl (by rw [fw]; omega)
  by_cases h2 : mk = 2
  · subst h2
    generalize (mv == 0 && (x.owner == -1 || x.owner == t) && decide (s < 1000)) = c
    cases c with
    | true => exact agree_yes rfl rfl
    | false => exact agree_no rfl rfl
  by_cases h4 : mk = 4
  · subst h4
    have e : w64 (x.reads.get t - 1) = x.reads.get t - 1 := w64_id (by omega)
    have e2 : decide (0 ≤ x.reads.get t - 1) = decide (0 < x.reads.get t) := by
      by_cases h : 0 < x.reads.get t
      · simp [h]; omega
      · simp [h]; omega
    simp only [e, get_set _ _ ht, e2, gif, Option.bind_some]
    generalize (mv == 0 && decide (0 < x.reads.get t)) = c
    cases c with
    | true => exact agree_yes rfl rfl
    | false => exact agree_no rfl rfl
  by_cases h5 : mk = 5
  · subst h5; exact agree_same rfl rfl
  by_cases h6 : mk = 6
  · subst h6
    simp only [gif, Option.bind_some]
    have e : (if (mv == 0 && !x.owner == t) = true then some true else some (mv == 1 && x.reads.get t == 0)) = some ((mv == 0 && !x.owner == t) || (mv == 1 && x.reads.get t == 0)) := by
      generalize (mv == 0 && !x.owner == t) = c
      cases c <;> rfl
    simp only [e, Option.bind_some]
    exact agree_same rfl rfl
  by_cases h7 : mk = 7
  · subst h7; exact agree_same rfl rfl
  · exact agree_no (y := x) (by simp [h1, h2, h3, h4, h5, h6, h7]) (by simp [h1, h2, h3, h4, h5, h6, h7])
end Go.Proofs.Ytbfndihcbogjfaa
