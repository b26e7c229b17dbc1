/-
  Plain lemmas on the pure functions of package micro: small ones. Conditions: as said.
-/
import Derived.Test.YtjdalhedpgiimaaF
import Derived.Test.YtjdalhedpgiimaaO
import Derived.IntWalk
namespace Go.Proofs.Ytjdalhedpgiimaa
open Go Go.RowKit Gx

theorem w64_id {n : Int} (h : -9223372036854775808 ≤ n ∧ n ≤ 9223372036854775807) : w64 n = n := IntWalk.i64_in n h
theorem ix_nat {α : Type} (xs : List α) (n : Nat) : ix xs (n : Int) = xs[n]? := by simp [ix]
theorem app_ok {α : Type} {xs ys : List α} (h : xs.length + ys.length ≤ lim) : app xs ys = some (xs ++ ys) := if_pos h
theorem wfI64 {n : Int} (h : wfI .i64 n) : -9223372036854775808 ≤ n ∧ n ≤ 9223372036854775807 := by
  have h : (decide (IntKind.i64.min ≤ n) && decide (n ≤ IntKind.i64.max)) = true := h
  simp only [Bool.and_eq_true, decide_eq_true_eq] at h
  exact h
theorem ix_some {α : Type} {xs : List α} {i : Int} (h : 0 ≤ i ∧ i < (xs.length : Int)) : ∃ y, ix xs i = some y := by
  refine ⟨xs[i.toNat]'(by omega), ?_⟩
  rw [ix, if_pos h.1]
  exact List.getElem?_eq_getElem (by omega)
/-- an instruction whose fields may be -/
structure Good (x : TIns) : Prop where
  o1 : 1 ≤ x.op
  o2 : x.op ≤ 22
  a : 0 ≤ x.a ∧ x.a < 16
  b : 0 ≤ x.b ∧ x.b < 16
  c : 0 ≤ x.c ∧ x.c < 16
  cas : x.op = 7 → x.a ≤ 13

theorem asc_some {s : List UInt8} (hs : ∀ c ∈ s, c.toNat < 128) {i : Nat} (h : i < s.length) : ∃ c, asc s i = some c := by
  refine ⟨(s[i].toNat : Int), ?_⟩
  rw [asc, List.getElem?_eq_getElem h]
  simp [hs _ (List.getElem_mem h)]
theorem may_l0 (x : TIns) (s : Tins_shape) (hs : ∀ c ∈ s.has, c.toNat < 128) : ∀ (k : Nat) (a b c n : Int) (i : Nat), s.has.length - i < k → ∃ o, ins_May.l0 x s k a b c n i = some o ∧ ∀ r, o = .ret r → r = false := by
  intro k
  induction k with
  | zero => intro a b c n i h; omega
  | succ k ih =>
    intro a b c n i h
    rw [ins_May.l0]
    split
    · rename_i hi
      obtain ⟨v, hv⟩ := asc_some hs hi
      rw [hv]
      simp only [Option.bind_some]
      have h2 : s.has.length - (i + 1) < k := by omega
      repeat' split
      all_goals first | exact ih _ _ _ _ _ h2 | exact ⟨_, rfl, fun r h => by cases h; rfl⟩
    · exact ⟨_, rfl, fun r h => by cases h⟩
def shapesL : List Tins_shape := (ins_shapes).getD []
theorem shapes_eq : ins_shapes = some shapesL := rfl
theorem shapes_len : shapesL.length = 23 := rfl
theorem shapes_asc : ∀ s ∈ shapesL, s.has.length ≤ 3 ∧ ∀ c ∈ s.has, c.toNat < 128 := by decide +kernel
theorem gif (b c : Bool) : (if b then some c else some false) = some (b && c) := by cases b <;> rfl
theorem may_some (x : TIns) {k : Nat} (hk : 5 ≤ k) : ∃ b, ins_May k x = some b ∧ (b = true → Good x) := by
  rw [ins_May]
  simp only [shapes_eq, Option.bind_some]
  by_cases h1 : x.op < 1
  · exact ⟨false, by simp [h1], by simp⟩
  have e1 : (if decide (x.op < 1) = true then some true else some (decide ((shapesL.length : Int) ≤ x.op))) = some (decide (23 ≤ x.op)) := by rw [if_neg (by simpa using h1)]; rfl
  rw [e1]
  simp only [Option.bind_some]
  by_cases h2 : (decide (23 ≤ x.op) || ((x.op == 7) && (decide (13 < x.a)))) = true
  · rw [if_pos h2]; exact ⟨false, rfl, by simp⟩
  rw [if_neg h2]
  simp only [Bool.or_eq_true, decide_eq_true_eq, Bool.and_eq_true, beq_iff_eq, not_or, not_and] at h2
  obtain ⟨y, hy⟩ := ix_some (xs := shapesL) (i := x.op) ⟨by omega, by rw [shapes_len]; omega⟩
  have hm : y ∈ shapesL := by
    rw [ix, if_pos (by omega)] at hy
    exact List.mem_of_getElem? hy
  obtain ⟨h3, h4⟩ := shapes_asc y hm
  obtain ⟨o, ho, hr⟩ := may_l0 x y h4 k x.a x.b x.c x.n 0 (by omega)
  rw [hy]
  simp only [Option.bind_some, ho]
  cases o with
  | ret r =>
    -- a number that is too great
    obtain rfl := hr r rfl
    exact ⟨false, rfl, by simp⟩
  | go g =>
    simp only [Lp.k, ins_May_1, Option.bind_some, gif]
    refine ⟨_, rfl, fun h => ?_⟩
    simp only [Bool.and_eq_true, decide_eq_true_eq] at h
    exact ⟨by omega, by omega, h.1.1.2, h.1.2, h.2, fun h7 => by have := h2.2 h7; omega⟩
end Go.Proofs.Ytjdalhedpgiimaa
