/-
  Plain lemmas on the pure functions of package micro: a step; what the laws begin with. Conditions: as said.
-/
import Derived.Test.YtjdalhedpgiimaaP2
namespace Go.Proofs.Ytjdalhedpgiimaa
open Go Go.RowKit Gx

abbrev Res := (List TFrame) × (List TNote) × Int × Int × Er × Tcell_Arena × Tpermit_Table
/-- what a step comes to, from an arena and a table -/
structure Sp (r : Res) : Prop where
  e : r.2.2.2.2.1 = .nil
  how : 0 ≤ r.2.2.1 ∧ r.2.2.1 ≤ 3
  ar : Ar r.2.2.2.2.2.1
  tb : Tb r.2.2.2.2.2.2
  l16 : r.1.length ≤ 16
  no : r.2.1.length ≤ 1000
theorem l0_some (x0 : List TIns) (i : Int) : ∀ (k n : Nat) (c : List TIns) (l : List TFrame) (notes : List TNote) (value : Int) (al : List Int) (most : Int) (tl : List TPark) (now : Int), n ≤ 200 → 210 ≤ k + n → Mi ⟨c, ⟨al, most⟩, ⟨tl, now⟩, i, l, notes, value⟩ n →
    ∃ r, micro_Step.l0 x0 k c i l notes value al most tl now (n : Int) = some r ∧ Sp r ∧ (0 < n → ∃ z, r.2.2.2.2.2.1.l = al ++ z) ∧ (n = 0 → ∃ j v z, r.2.2.2.2.2.1.l = al.set j v ++ z) := by
  intro k
  induction k with
  | zero => intro n c l notes value al most tl now hn hk; omega
  | succ k ih =>
    intro n c l notes value al most tl now hn hk o
    have h1 : 1 ≤ l.length := o.l1
    have h16 : l.length ≤ 16 := o.l16
    have hno : notes.length ≤ n := o.no
    have fin : ∀ (h v : Int), (0 ≤ h ∧ h ≤ 3) → Sp ((l, notes, h, v, .nil, ⟨al, most⟩, ⟨tl, now⟩) : Res) := fun h v hh => ⟨rfl, hh, o.ar, o.tb, o.l16, by show notes.length ≤ 1000; omega⟩
    have zs : ∃ z, al = al ++ z := ⟨[], by simp⟩
    have js : ∃ j v z, al = al.set j v ++ z := ⟨al.length, 0, [], by rw [List.set_eq_of_length_le (Nat.le_refl _)]; simp⟩
    obtain ⟨y, hy⟩ := ix_some (xs := l) (i := (l.length : Int) - 1) ⟨by omega, by omega⟩
    rw [micro_Step.l0, w64_id (n := (l.length : Int) - 1) (by omega), hy]
    simp only [Option.bind_some]
    by_cases hc : (((decide (y.at_ < 0)) || (decide ((x0.length : Int) ≤ y.at_))) || (decide (200 ≤ (n : Int)))) = true
    · rw [if_pos hc]
      exact ⟨_, rfl, fin 3 0 (by omega), fun _ => zs, fun _ => js⟩
    rw [if_neg hc]
    simp only [Bool.or_eq_true, decide_eq_true_eq, not_or] at hc
    obtain ⟨x, hx⟩ := ix_some (xs := x0) (i := y.at_) ⟨by omega, by omega⟩
    obtain ⟨b, hb, hg⟩ := may_some x (k := k) (by omega)
    rw [hx]
    simp only [Option.bind_some, hb, hx]
    cases b with
    | false => exact ⟨_, rfl, fin 3 0 (by omega), fun _ => zs, fun _ => js⟩
    | true =>
      have g := hg rfl
      simp only [Bool.not_true, Bool.false_eq_true, if_false, ins_Access, Option.bind_some]
      have e2 : (if decide (0 < (n : Int)) = true then some (decide (5 ≤ x.op) && decide (x.op ≤ 7)) else some false) = some (decide (0 < (n : Int)) && (decide (5 ≤ x.op) && decide (x.op ≤ 7))) := by
        cases decide (0 < (n : Int)) <;> rfl
      rw [e2]
      simp only [Option.bind_some]
      by_cases ha : (decide (0 < (n : Int)) && (decide (5 ≤ x.op) && decide (x.op ≤ 7))) = true
      · rw [if_pos ha]
        exact ⟨_, rfl, fin 0 0 (by omega), fun _ => zs, fun _ => js⟩
      rw [if_neg ha]
      simp only [Bool.and_eq_true, decide_eq_true_eq] at ha
      obtain ⟨r, hr, mi, ei, hh, hA, hN⟩ := one_some o (by omega) g
      rw [hr]
      simp only [Option.bind_some]
      have hzn : 0 < n → ∃ z, r.2.a.l = al ++ z := fun hn0 => hN (fun h => ha ⟨by omega, h⟩)
      have hz0 : ∃ j v z, r.2.a.l = al.set j v ++ z := by
        by_cases hx2 : 5 ≤ x.op ∧ x.op ≤ 7
        · obtain ⟨j, v, e⟩ := hA hx2
          exact ⟨j, v, [], by rw [e]; simp⟩
        · obtain ⟨z, e⟩ := hN hx2
          exact ⟨al.length, 0, z, by rw [e, List.set_eq_of_length_le (Nat.le_refl _)]⟩
      have hno2 : r.2.notes.length ≤ n + 1 := mi.no
      by_cases h0 : (r.1 == 0) = true
      · rw [if_pos h0]
        have e3 : w64 ((n : Int) + 1) = ((n + 1 : Nat) : Int) := by rw [w64_id (by omega)]; rfl
        rw [e3]
        have mi' : Mi ⟨r.2.code, ⟨r.2.a.l, r.2.a.most⟩, ⟨r.2.t.l, r.2.t.now⟩, i, r.2.l, r.2.notes, r.2.value⟩ (n + 1) := by
          have : r.2.i = i := ei
          rw [← this]; exact mi
        have ei' : r.2.i = i := ei
        rw [ei']
        obtain ⟨r2, hr2, sp, hz, _⟩ := ih (n + 1) r.2.code r.2.l r.2.notes r.2.value r.2.a.l r.2.a.most r.2.t.l r.2.t.now (by omega) (by omega) mi'
        refine ⟨r2, hr2, ⟨sp.e, sp.how, sp.ar, sp.tb, sp.l16, sp.no⟩, fun hn0 => ?_, fun hn0 => ?_⟩
        · obtain ⟨z, e⟩ := hzn hn0
          obtain ⟨z2, e2⟩ := hz (by omega)
          exact ⟨z ++ z2, by rw [e2, e, List.append_assoc]⟩
        · obtain ⟨j, v, z, e⟩ := hz0
          obtain ⟨z2, e2⟩ := hz (by omega)
          exact ⟨j, v, z ++ z2, by rw [e2, e, List.append_assoc]⟩
      rw [if_neg h0]
      simp only [beq_iff_eq] at h0
      have sp : ∀ (h : Int), (0 ≤ h ∧ h ≤ 3) → Sp ((r.2.l, r.2.notes, h, r.2.value, .nil, r.2.a, r.2.t) : Res) := fun h hh => ⟨rfl, hh, mi.ar, mi.tb, mi.l16, by show r.2.notes.length ≤ 1000; omega⟩
      by_cases hm : (r.1 == (-1)) = true
      · rw [if_pos hm]
        exact ⟨_, rfl, sp 0 (by omega), hzn, fun _ => hz0⟩
      rw [if_neg hm]
      simp only [beq_iff_eq] at hm
      exact ⟨_, rfl, sp r.1 (by omega), hzn, fun _ => hz0⟩
/-- a step, of whatever frames -/
theorem step_some (x0 : List TIns) {a : Tcell_Arena} {t : Tpermit_Table} (ha : Ar a) (ht : Tb t) (i : Int) (l : List TFrame) {k : Nat} (hk : 210 ≤ k) :
    ∃ r, micro_Step k x0 a t i l = some r ∧ ((r = ([], [], 0, 0, .code 1, a, t) ∧ (l.length = 0 ∨ 16 < l.length ∨ i < 0 ∨ (t.l.length : Int) ≤ i ∨ ∃ p, ix t.l i = some p ∧ p.blocked = true)) ∨
      (Sp r ∧ (∃ j v z, r.2.2.2.2.2.1.l = a.l.set j v ++ z) ∧ 1 ≤ l.length ∧ l.length ≤ 16 ∧ 0 ≤ i ∧ i < (t.l.length : Int))) := by
  rw [micro_Step]
  by_cases h1 : (((l.length : Int) == 0) || (decide (16 < (l.length : Int)))) = true
  · rw [if_pos h1]
    simp only [Bool.or_eq_true, beq_iff_eq, decide_eq_true_eq] at h1
    exact ⟨_, rfl, .inl ⟨rfl, by omega⟩⟩
  rw [if_neg h1]
  simp only [Bool.or_eq_true, beq_iff_eq, decide_eq_true_eq, not_or] at h1
  rw [permit_Table_At, has_eq]
  by_cases h2 : 0 ≤ i ∧ i < (t.l.length : Int)
  · obtain ⟨p, hp⟩ := ix_some (xs := t.l) (i := i) h2
    rw [show decide (0 ≤ i ∧ i < (t.l.length : Int)) = true from decide_eq_true h2]
    simp only [Bool.not_true, Bool.false_eq_true, if_false, Option.bind_some, hp, Er.isN, Bool.false_or]
    by_cases h3 : p.blocked = true
    · rw [if_pos h3]
      exact ⟨_, rfl, .inl ⟨rfl, .inr (.inr (.inr (.inr ⟨p, rfl, h3⟩)))⟩⟩
    · rw [if_neg h3, slices_Clone_Frame, app_ok (by unfold lim; simp; omega)]
      simp only [Option.bind_some, List.nil_append]
      obtain ⟨r, hr, sp, _, hz⟩ := l0_some x0 i k 0 x0 l [] 0 a.l a.most t.l t.now (by omega) (by omega) ⟨ha, ht, h2, by show 1 ≤ l.length; omega, by show l.length ≤ 16; omega, by show ([] : List TNote).length ≤ 0; simp⟩
      exact ⟨r, hr, .inr ⟨sp, hz rfl, by omega, by omega, h2.1, h2.2⟩⟩
  · rw [show decide (0 ≤ i ∧ i < (t.l.length : Int)) = false from decide_eq_false h2]
    simp only [Bool.not_false, if_true, Option.bind_some, Er.isN, Bool.true_or]
    exact ⟨_, rfl, .inl ⟨rfl, by omega⟩⟩
theorem store_in {a : Tcell_Arena} {i : Int} (v : Int) (h : 1 ≤ i ∧ i < (a.l.length : Int)) : cell_Arena_Store a i v = some (.nil, { a with l := a.l.set i.toNat v }) := by
  obtain ⟨y, hy⟩ := ix_some (xs := a.l) (i := i) ⟨by omega, h.2⟩
  rw [cell_Arena_Store, there_eq]
  simp [h, hy]
theorem made_l0 (x0 : List Int) (hx : x0.length ≤ 1000) : ∀ (suf pre : List Int) (k : Nat), x0 = pre ++ suf → suf.length < k → tholelaw09_made.l0 x0 k (0 :: pre ++ List.replicate suf.length 0) 4096 (pre.length : Int) = some (.go (0 :: x0, 4096)) := by
  intro suf
  induction suf with
  | nil =>
    intro pre k e hk
    obtain ⟨k, rfl⟩ : ∃ m, k = m + 1 := ⟨k - 1, by simp at hk; omega⟩
    subst e
    simp [tholelaw09_made.l0]
  | cons y suf ih =>
    intro pre k e hk
    obtain ⟨k, rfl⟩ : ∃ m, k = m + 1 := ⟨k - 1, by simp at hk; omega⟩
    have hlt : (pre.length : Int) < (x0.length : Int) := by subst e; simp; omega
    have hg : x0[pre.length]? = some y := by subst e; simp
    have e2 : w64 ((pre.length : Int) + 1) = ((pre ++ [y]).length : Int) := by
      rw [w64_id (by omega)]; simp
    rw [tholelaw09_made.l0, if_pos (by simpa using hlt), ix_nat, hg]
    simp only [Option.bind_some, e2]
    rw [store_in y (by simp; omega)]
    simp only [Option.bind_some, Er.isN, Bool.not_true, Bool.false_eq_true, if_false]
    have e3 : (0 :: pre ++ List.replicate (y :: suf).length 0).set ((((pre ++ [y]).length : Nat) : Int).toNat) y = 0 :: (pre ++ [y]) ++ List.replicate suf.length 0 := by
      rw [Int.toNat_natCast, List.length_append, List.length_singleton, List.cons_append, List.set_cons_succ, List.set_append_right _ _ (Nat.le_refl _), Nat.sub_self]
      simp [List.replicate_succ]
    rw [e3]
    exact ih (pre ++ [y]) k (by simp [e]) (by simp at hk; omega)
def zpark : TPark := ⟨false, false, false, 0⟩
/-- the arena and the table that a law begins with -/
theorem made_eq (x0 : List Int) (hx : x0.length ≤ 1000) (n : Nat) (hn : 1 ≤ n ∧ n ≤ 8) {k : Nat} (hk : 1001 ≤ k) : tholelaw09_made k x0 (n : Int) = some (some ⟨0 :: x0, 4096⟩, some ⟨List.replicate n zpark, 0⟩) := by
  have e1 : cell_New 4096 = some (some ⟨[0], 4096⟩, .nil) := rfl
  have e2 : permit_New (n : Int) = some (some ⟨List.replicate n zpark, 0⟩, .nil) := by
    rw [permit_New, if_neg (by simp; omega), mk, if_pos (by unfold lim; omega)]
    simp [zpark]
  rw [tholelaw09_made, e1, e2]
  simp only [Option.bind_some, om, Er.isN, Bool.not_true, Bool.or_self, Bool.false_eq_true, if_false]
  by_cases h0 : decide (0 < (x0.length : Int)) = true
  · rw [if_pos h0]
    simp only [decide_eq_true_eq] at h0
    have e3 : cell_Arena_Alloc ⟨[0], 4096⟩ (x0.length : Int) = some (1, .nil, ⟨0 :: List.replicate x0.length 0, 4096⟩) := by
      rw [cell_Arena_Alloc, if_neg (by simp; omega), cell_Arena_Len]
      have : w64 ((([0] : List Int).length : Int) - 1) = 0 := by decide +kernel
      rw [this]
      simp only [Option.bind_some]
      rw [show w64 (4096 - 0) = 4096 by decide +kernel, if_neg (by simp; omega), appz, if_pos (by unfold lim; simp; omega)]
      simp
    rw [e3]
    simp only [Option.bind_some, Er.isN, Bool.not_true, Bool.false_eq_true, if_false]
    have := made_l0 x0 hx x0 [] k rfl (by omega)
    simp only [List.length_nil, Int.natCast_zero, List.cons_append, List.nil_append] at this
    rw [this]
    rfl
  · rw [if_neg h0]
    simp only [decide_eq_true_eq] at h0
    have hx0 : x0 = [] := List.eq_nil_of_length_eq_zero (by omega)
    subst hx0
    obtain ⟨k, rfl⟩ : ∃ m, k = m + 1 := ⟨k - 1, by omega⟩
    simp [tholelaw09_made.l1, Lp.k]
theorem ar0 (x0 : List Int) (hx : x0.length ≤ 1000) : Ar ⟨0 :: x0, 4096⟩ := ⟨by simp, by show (4096 : Int) ≤ 4096; omega, by show (((0 :: x0).length : Nat) : Int) ≤ 4096 + 1; simp; omega⟩
theorem tb0 (n : Nat) (hn : 1 ≤ n ∧ n ≤ 8) : Tb ⟨List.replicate n zpark, 0⟩ := ⟨by show 1 ≤ (List.replicate n zpark).length; simp; omega, by show (List.replicate n zpark).length ≤ 8; simp; omega⟩
theorem up_eq : tholelaw09_up 10000 = some true := by decide +kernel
end Go.Proofs.Ytjdalhedpgiimaa
