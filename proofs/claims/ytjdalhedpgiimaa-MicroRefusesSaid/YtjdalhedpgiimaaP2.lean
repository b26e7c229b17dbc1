/-
  Plain lemmas on the pure functions of packages cell, permit, micro: an instruction is done. Conditions: as said.
-/
import Derived.Test.YtjdalhedpgiimaaP1
namespace Go.Proofs.Ytjdalhedpgiimaa
open Go Go.RowKit Gx

structure Ar (a : Tcell_Arena) : Prop where
  len : 1 ≤ a.l.length
  most : a.most ≤ 4096
  le : (a.l.length : Int) ≤ a.most + 1
structure Tb (t : Tpermit_Table) : Prop where
  l1 : 1 ≤ t.l.length
  l8 : t.l.length ≤ 8
theorem Ar.small {a : Tcell_Arena} (h : Ar a) : a.l.length ≤ 4097 := by have := h.le; have := h.most; omega
theorem Ar.set {a : Tcell_Arena} (h : Ar a) (j : Nat) (v : Int) : Ar { a with l := a.l.set j v } := ⟨by simpa using h.len, h.most, by simpa using h.le⟩
theorem set_out (a : Tcell_Arena) : a = { a with l := a.l.set a.l.length 0 } := by rw [List.set_eq_of_length_le (Nat.le_refl _)]
theorem there_eq (a : Tcell_Arena) (i : Int) : cell_Arena_there a i = some (decide (1 ≤ i ∧ i < (a.l.length : Int))) := by
  rw [cell_Arena_there]; simp [Bool.decide_and]
theorem load_in {a : Tcell_Arena} {i : Int} (h : 1 ≤ i ∧ i < (a.l.length : Int)) {y : Int} (hy : ix a.l i = some y) : cell_Arena_Load a i = some (y, .nil) := by
  rw [cell_Arena_Load, there_eq]; simp [h, hy]
theorem load_some (a : Tcell_Arena) (i : Int) : ∃ r, cell_Arena_Load a i = some r := by
  rw [cell_Arena_Load, there_eq]
  by_cases h : 1 ≤ i ∧ i < (a.l.length : Int)
  · obtain ⟨y, hy⟩ := ix_some (xs := a.l) (i := i) ⟨by omega, h.2⟩
    simp [h, hy]
  · simp [h]
theorem store_some (a : Tcell_Arena) (i v : Int) : ∃ r, cell_Arena_Store a i v = some r ∧ ∃ j u, r.2 = { a with l := a.l.set j u } := by
  rw [cell_Arena_Store, there_eq]
  by_cases h : 1 ≤ i ∧ i < (a.l.length : Int)
  · obtain ⟨y, hy⟩ := ix_some (xs := a.l) (i := i) ⟨by omega, h.2⟩
    simp only [h, and_self, decide_true, Bool.not_true, Bool.false_eq_true, if_false, Option.bind_some, hy]
    exact ⟨_, rfl, i.toNat, v, rfl⟩
  · simp only [h, decide_false, Bool.not_false, if_true, Option.bind_some]
    exact ⟨_, rfl, a.l.length, 0, set_out a⟩
theorem swap_some (a : Tcell_Arena) (i o v : Int) : ∃ r, cell_Arena_Swap a i o v = some r ∧ ∃ j u, r.2.2 = { a with l := a.l.set j u } := by
  rw [cell_Arena_Swap, there_eq]
  by_cases h : 1 ≤ i ∧ i < (a.l.length : Int)
  · obtain ⟨y, hy⟩ := ix_some (xs := a.l) (i := i) ⟨by omega, h.2⟩
    simp only [h, and_self, decide_true, Bool.not_true, Bool.false_eq_true, if_false, Option.bind_some, hy]
    split
    · exact ⟨_, rfl, a.l.length, 0, set_out a⟩
    · exact ⟨_, rfl, i.toNat, v, rfl⟩
  · simp only [h, decide_false, Bool.not_false, if_true, Option.bind_some]
    exact ⟨_, rfl, a.l.length, 0, set_out a⟩
theorem alloc_some {a : Tcell_Arena} (h : Ar a) (n : Int) : ∃ r, cell_Arena_Alloc a n = some r ∧ Ar r.2.2 ∧ ∃ z, r.2.2.l = a.l ++ z := by
  have h1 := h.len
  have h2 := h.most
  have h3 := h.le
  have h4 := h.small
  rw [cell_Arena_Alloc, cell_Arena_Len]
  rw [w64_id (n := (a.l.length : Int) - 1) (by omega)]
  simp only [Option.bind_some]
  rw [w64_id (by omega)]
  split
  · exact ⟨_, rfl, h, [], by simp⟩
  split
  · exact ⟨_, rfl, h, [], by simp⟩
  rename_i c1 c2
  simp only [decide_eq_true_eq] at c1 c2
  rw [appz, if_pos (by unfold lim; omega)]
  refine ⟨_, rfl, ⟨by simp; omega, h2, by simp; omega⟩, _, rfl⟩
theorem has_eq (t : Tpermit_Table) (i : Int) : permit_Table_has t i = some (decide (0 ≤ i ∧ i < (t.l.length : Int))) := by
  rw [permit_Table_has]; simp [Bool.decide_and]
theorem on_some {t : Tpermit_Table} {i : Int} (h : 0 ≤ i ∧ i < (t.l.length : Int)) : ∃ u, permit_Table_on t i = some u ∧ u.l.length = t.l.length := by
  obtain ⟨y, hy⟩ := ix_some (xs := t.l) (i := i) h
  rw [permit_Table_on, hy]
  exact ⟨_, rfl, by simp⟩
theorem unpark_some (t : Tpermit_Table) (i : Int) : ∃ r, permit_Table_Unpark t i = some r ∧ r.2.l.length = t.l.length := by
  rw [permit_Table_Unpark, has_eq]
  by_cases h : 0 ≤ i ∧ i < (t.l.length : Int)
  · obtain ⟨y, hy⟩ := ix_some (xs := t.l) (i := i) h
    simp only [h, and_self, decide_true, Bool.not_true, Bool.false_eq_true, if_false, Option.bind_some, hy]
    split
    · obtain ⟨u, hu, hl⟩ := on_some (t := { t with l := t.l.set i.toNat { y with permit := true } }) (i := i) (by simpa using h)
      rw [hu]; exact ⟨_, rfl, by simpa using hl⟩
    · obtain ⟨u, hu, hl⟩ := on_some (t := t) (i := i) h
      rw [hu]; exact ⟨_, rfl, hl⟩
  · simp only [h, decide_false, Bool.not_false, if_true, Option.bind_some]
    exact ⟨_, rfl, rfl⟩
theorem interrupt_some (t : Tpermit_Table) (i : Int) : ∃ r, permit_Table_Interrupt t i = some r ∧ r.2.l.length = t.l.length := by
  rw [permit_Table_Interrupt, has_eq]
  by_cases h : 0 ≤ i ∧ i < (t.l.length : Int)
  · obtain ⟨y, hy⟩ := ix_some (xs := t.l) (i := i) h
    simp only [h, and_self, decide_true, Bool.not_true, Bool.false_eq_true, if_false, Option.bind_some, hy]
    obtain ⟨u, hu, hl⟩ := on_some (t := { t with l := t.l.set i.toNat { y with flag := true } }) (i := i) (by simpa using h)
    rw [hu]; exact ⟨_, rfl, by simpa using hl⟩
  · simp only [h, decide_false, Bool.not_false, if_true, Option.bind_some]
    exact ⟨_, rfl, rfl⟩
theorem clear_some (t : Tpermit_Table) (i : Int) : ∃ r, permit_Table_Clear t i = some r ∧ r.2.2.l.length = t.l.length := by
  rw [permit_Table_Clear, has_eq]
  by_cases h : 0 ≤ i ∧ i < (t.l.length : Int)
  · obtain ⟨y, hy⟩ := ix_some (xs := t.l) (i := i) h
    simp only [h, and_self, decide_true, Bool.not_true, Bool.false_eq_true, if_false, Option.bind_some, hy]
    exact ⟨_, rfl, by simp⟩
  · simp only [h, decide_false, Bool.not_false, if_true, Option.bind_some]
    exact ⟨_, rfl, rfl⟩
theorem park_some (t : Tpermit_Table) (i d : Int) : ∃ r, permit_Table_Park t i d = some r ∧ r.2.2.l.length = t.l.length := by
  rw [permit_Table_Park, has_eq]
  by_cases h : 0 ≤ i ∧ i < (t.l.length : Int)
  · obtain ⟨y, hy⟩ := ix_some (xs := t.l) (i := i) h
    simp only [h, and_self, decide_true, Bool.not_true, Bool.false_eq_true, if_false, Option.bind_some, hy, clock_Due, gif]
    split
    · exact ⟨_, rfl, rfl⟩
    split
    · exact ⟨_, rfl, by simp⟩
    have e : (if y.flag = true then some true else some ((decide (0 ≤ d)) && (decide (d ≤ t.now)))) = some (y.flag || ((decide (0 ≤ d)) && (decide (d ≤ t.now)))) := by cases y.flag <;> rfl
    rw [e]
    simp only [Option.bind_some]
    split
    · exact ⟨_, rfl, rfl⟩
    · exact ⟨_, rfl, by simp⟩
  · simp only [h, decide_false, Bool.not_false, if_true, Option.bind_some]
    exact ⟨_, rfl, rfl⟩

/-- a machine that may be: q: at most so many notes -/
structure Mi (m : Tmicro_machine) (q : Nat) : Prop where
  ar : Ar m.a
  tb : Tb m.t
  i : 0 ≤ m.i ∧ m.i < (m.t.l.length : Int)
  l1 : 1 ≤ m.l.length
  l16 : m.l.length ≤ 16
  no : m.notes.length ≤ q
theorem access_some {m : Tmicro_machine} {x : TIns} {d : Int} (g : Good x) (hd : 0 ≤ d ∧ d < (m.l.length : Int)) (hx : 5 ≤ x.op ∧ x.op ≤ 7) :
    ∃ r, micro_machine_access m x d = some r ∧ r.2.l.length = m.l.length ∧ r.2.t = m.t ∧ r.2.i = m.i ∧ r.2.notes = m.notes ∧ ∃ j v, r.2.a = { m.a with l := m.a.l.set j v } := by
  obtain ⟨y, hy⟩ := ix_some (xs := m.l) (i := d) hd
  rw [micro_machine_access, hy]
  simp only [Option.bind_some, if_pos g.a, if_pos g.b]
  split
  · obtain ⟨r, hr⟩ := load_some m.a (w64 (y.r.get x.b + x.n))
    rw [hr]
    simp only [Option.bind_some]
    split
    · exact ⟨_, rfl, rfl, rfl, rfl, rfl, m.a.l.length, 0, set_out m.a⟩
    · exact ⟨_, rfl, by simp, rfl, rfl, rfl, m.a.l.length, 0, set_out m.a⟩
  split
  · obtain ⟨r, hr, j, u, e⟩ := store_some m.a (w64 (y.r.get x.b + x.n)) (y.r.get x.a)
    rw [hr]
    exact ⟨_, rfl, rfl, rfl, rfl, rfl, j, u, e⟩
  · rename_i h5 h6
    simp only [beq_iff_eq] at h5 h6
    have h7 := g.cas (by omega)
    have ha := g.a
    rw [w64_id (n := x.a + 1) (by omega), w64_id (n := x.a + 2) (by omega), if_pos (by omega)]
    obtain ⟨r, hr, j, u, e⟩ := swap_some m.a (w64 (y.r.get x.b + x.n)) (y.r.get x.a) (y.r.get (x.a + 1))
    rw [hr]
    simp only [Option.bind_some, hy]
    simp only [if_pos (show 0 ≤ x.a + 2 ∧ x.a + 2 < 16 by omega)]
    split
    · exact ⟨_, rfl, rfl, rfl, rfl, rfl, j, u, e⟩
    split
    · exact ⟨_, rfl, by simp, rfl, rfl, rfl, j, u, e⟩
    · exact ⟨_, rfl, by simp, rfl, rfl, rfl, j, u, e⟩
theorem plain_some {m : Tmicro_machine} {x : TIns} {d : Int} {q : Nat} (o : Mi m q) (hq : q ≤ 1000) (g : Good x) (hd : 0 ≤ d ∧ d < (m.l.length : Int)) :
    ∃ r, micro_machine_plain m x d = some r ∧ Mi r.2 (q + 1) ∧ r.2.l.length = m.l.length ∧ r.2.i = m.i ∧ ∃ z, r.2.a.l = m.a.l ++ z := by
  obtain ⟨y, hy⟩ := ix_some (xs := m.l) (i := d) hd
  have keep : ∀ l' : List TFrame, l'.length = m.l.length → Mi { m with l := l' } (q + 1) := fun l' h => ⟨o.ar, o.tb, o.i, by show 1 ≤ l'.length; rw [h]; exact o.l1, by show l'.length ≤ 16; rw [h]; exact o.l16, Nat.le_succ_of_le o.no⟩
  have keepT : ∀ (t' : Tpermit_Table) (l' : List TFrame), l'.length = m.l.length → t'.l.length = m.t.l.length → Mi { m with t := t', l := l' } (q + 1) := fun t' l' h ht =>
    ⟨o.ar, ⟨by show 1 ≤ t'.l.length; rw [ht]; exact o.tb.l1, by show t'.l.length ≤ 8; rw [ht]; exact o.tb.l8⟩, by show 0 ≤ m.i ∧ m.i < (t'.l.length : Int); rw [ht]; exact o.i, by show 1 ≤ l'.length; rw [h]; exact o.l1, by show l'.length ≤ 16; rw [h]; exact o.l16, Nat.le_succ_of_le o.no⟩
  have keepA : ∀ (a' : Tcell_Arena) (l' : List TFrame), l'.length = m.l.length → Ar a' → Mi { m with a := a', l := l' } (q + 1) := fun a' l' h ha => ⟨ha, o.tb, o.i, by show 1 ≤ l'.length; rw [h]; exact o.l1, by show l'.length ≤ 16; rw [h]; exact o.l16, Nat.le_succ_of_le o.no⟩
  rw [micro_machine_plain, hy]
  rw [Option.bind_some]
  by_cases h1 : (x.op == 1) = true
  · rw [if_pos h1]
    rw [if_pos g.a]; exact ⟨_, rfl, keep _ (by simp), by simp, rfl, [], by simp⟩
  rw [if_neg h1]
  by_cases h2 : (x.op == 2) = true
  · rw [if_pos h2]
    rw [if_pos g.b, if_pos g.a]; exact ⟨_, rfl, keep _ (by simp), by simp, rfl, [], by simp⟩
  rw [if_neg h2]
  by_cases h3 : (x.op == 3) = true
  · rw [if_pos h3]
    rw [if_pos g.b, if_pos g.c, if_pos g.a]; exact ⟨_, rfl, keep _ (by simp), by simp, rfl, [], by simp⟩
  rw [if_neg h3]
  by_cases h4 : (x.op == 4) = true
  · rw [if_pos h4]
    rw [if_pos g.b, if_pos g.a]; exact ⟨_, rfl, keep _ (by simp), by simp, rfl, [], by simp⟩
  rw [if_neg h4]
  by_cases h15 : (x.op == 15) = true
  · rw [if_pos h15]
    rw [if_pos g.a]
    split
    · obtain ⟨r, hr, hl⟩ := unpark_some m.t (y.r.get x.a)
      rw [hr]
      exact ⟨_, rfl, keepT _ m.l rfl hl, rfl, rfl, [], by simp⟩
    · exact ⟨_, rfl, keep _ rfl, rfl, rfl, [], by simp⟩
  rw [if_neg h15]
  by_cases h16 : (x.op == 16) = true
  · rw [if_pos h16]
    obtain ⟨r, hr, ha, z, hz⟩ := alloc_some o.ar (if x.n < 0 then 0 else x.n)
    rw [hr]
    simp only [Option.bind_some, hy, if_pos g.a]
    split
    · exact ⟨_, rfl, keepA _ _ (by simp) ha, by simp, rfl, z, hz⟩
    · exact ⟨_, rfl, keepA _ _ (by simp) ha, by simp, rfl, z, hz⟩
  rw [if_neg h16]
  by_cases h17 : (x.op == 17) = true
  · rw [if_pos h17]
    rw [if_pos g.a]; exact ⟨_, rfl, keep _ (by simp), by simp, rfl, [], by simp⟩
  rw [if_neg h17]
  by_cases h18 : (x.op == 18) = true
  · rw [if_pos h18]
    rw [permit_Table_Now, Option.bind_some, if_pos g.a]; exact ⟨_, rfl, keep _ (by simp), by simp, rfl, [], by simp⟩
  rw [if_neg h18]
  by_cases h19 : (x.op == 19) = true
  · rw [if_pos h19]
    obtain ⟨r, hr, hl⟩ := clear_some m.t m.i
    rw [hr]
    simp only [Option.bind_some, hy, if_pos g.a]
    split
    · exact ⟨_, rfl, keepT _ _ (by simp) hl, by simp, rfl, [], by simp⟩
    · exact ⟨_, rfl, keepT _ _ (by simp) hl, by simp, rfl, [], by simp⟩
  rw [if_neg h19]
  by_cases h20 : (x.op == 20) = true
  · rw [if_pos h20]
    obtain ⟨r, hr, hl⟩ := interrupt_some m.t m.i
    rw [hr]
    exact ⟨_, rfl, keepT _ m.l rfl hl, rfl, rfl, [], by simp⟩
  rw [if_neg h20]
  by_cases h21 : (x.op == 21) = true
  · rw [if_pos h21]
    rw [if_pos g.a, app_ok (by have := o.no; unfold lim; simp only [List.length_singleton]; omega)]
    exact ⟨_, rfl, ⟨o.ar, o.tb, o.i, o.l1, o.l16, by simp; exact o.no⟩, rfl, rfl, [], by simp⟩
  rw [if_neg h21]
  exact ⟨_, rfl, keep _ rfl, rfl, rfl, [], by simp⟩
theorem frames_some {m : Tmicro_machine} {x : TIns} {q : Nat} (o : Mi m q) : ∃ r, micro_machine_frames m x = some r ∧ Mi r.2 q ∧ r.2.i = m.i ∧ r.2.a = m.a := by
  have h1 := o.l1
  have h16 := o.l16
  have hw : w64 ((m.l.length : Int) - 1) = (m.l.length : Int) - 1 := w64_id (by omega)
  obtain ⟨y, hy⟩ := ix_some (xs := m.l) (i := (m.l.length : Int) - 1) ⟨by omega, by omega⟩
  have keep : ∀ l' : List TFrame, 1 ≤ l'.length → l'.length ≤ 16 → Mi { m with l := l' } q := fun l' h h' => ⟨o.ar, o.tb, o.i, h, h', o.no⟩
  rw [micro_machine_frames, hw, hy]
  simp only [Option.bind_some]
  split
  · split
    · exact ⟨_, rfl, keep _ h1 h16, rfl, rfl⟩
    · rename_i c
      simp only [decide_eq_true_eq] at c
      rw [app_ok (by unfold lim; simp only [List.length_set, List.length_singleton]; omega)]
      exact ⟨_, rfl, keep _ (by simp) (by simp only [List.length_append, List.length_set, List.length_singleton]; omega), rfl, rfl⟩
  split
  · exact ⟨_, rfl, keep _ h1 h16, rfl, rfl⟩
  · rename_i c
    simp only [beq_iff_eq] at c
    rw [slc, if_pos (by omega)]
    simp only [Option.bind_some]
    have hl : ((m.l.take ((m.l.length : Int) - 1).toNat).drop (0 : Int).toNat).length = m.l.length - 1 := by simp
    obtain ⟨u, hu⟩ := ix_some (xs := (m.l.take ((m.l.length : Int) - 1).toNat).drop (0 : Int).toNat) (i := w64 ((((m.l.take ((m.l.length : Int) - 1).toNat).drop (0 : Int).toNat).length : Int) - 1)) (by rw [hl, w64_id (by omega)]; omega)
    rw [hu]
    refine ⟨_, rfl, keep _ ?_ ?_, rfl, rfl⟩
    · simp only [List.length_set, hl]; omega
    · simp only [List.length_set, hl]; omega
/-- what an instruction comes to -/
theorem one_some {m : Tmicro_machine} {x : TIns} {q : Nat} (o : Mi m q) (hq : q ≤ 1000) (g : Good x) :
    ∃ r, micro_machine_one m x = some r ∧ Mi r.2 (q + 1) ∧ r.2.i = m.i ∧ (r.1 = -1 ∨ (0 ≤ r.1 ∧ r.1 ≤ 3)) ∧ ((5 ≤ x.op ∧ x.op ≤ 7) → ∃ j v, r.2.a.l = m.a.l.set j v) ∧ (¬ (5 ≤ x.op ∧ x.op ≤ 7) → ∃ z, r.2.a.l = m.a.l ++ z) := by
  have h1 := o.l1
  have h16 := o.l16
  have hw : w64 ((m.l.length : Int) - 1) = (m.l.length : Int) - 1 := w64_id (by omega)
  have hd : 0 ≤ (m.l.length : Int) - 1 ∧ (m.l.length : Int) - 1 < (m.l.length : Int) := by omega
  obtain ⟨y, hy⟩ := ix_some (xs := m.l) (i := (m.l.length : Int) - 1) hd
  have keep : ∀ (l' : List TFrame), l'.length = m.l.length → Mi { m with l := l' } (q + 1) := fun l' h => ⟨o.ar, o.tb, o.i, by show 1 ≤ l'.length; rw [h]; exact o.l1, by show l'.length ≤ 16; rw [h]; exact o.l16, Nat.le_succ_of_le o.no⟩
  have keepT : ∀ (t' : Tpermit_Table) (l' : List TFrame), l'.length = m.l.length → t'.l.length = m.t.l.length → Mi { m with t := t', l := l' } (q + 1) := fun t' l' h ht =>
    ⟨o.ar, ⟨by show 1 ≤ t'.l.length; rw [ht]; exact o.tb.l1, by show t'.l.length ≤ 8; rw [ht]; exact o.tb.l8⟩, by show 0 ≤ m.i ∧ m.i < (t'.l.length : Int); rw [ht]; exact o.i, by show 1 ≤ l'.length; rw [h]; exact o.l1, by show l'.length ≤ 16; rw [h]; exact o.l16, Nat.le_succ_of_le o.no⟩
  rw [micro_machine_one, hw, hy, ins_Access]
  simp only [Option.bind_some]
  split
  · rename_i hx
    have hx : 5 ≤ x.op ∧ x.op ≤ 7 := by simpa using hx
    obtain ⟨r, hr, e1, e2, e3, e4, j, v, e5⟩ := access_some (m := m) g hd hx
    have mi : Mi r.2 (q + 1) := ⟨by rw [e5]; exact o.ar.set j v, by rw [e2]; exact o.tb, by rw [e2, e3]; exact o.i, by rw [e1]; exact o.l1, by rw [e1]; exact o.l16, by rw [e4]; exact Nat.le_succ_of_le o.no⟩
    rw [hr]
    simp only [Option.bind_some]
    split
    · exact ⟨_, rfl, mi, e3, .inr (by simp), fun _ => ⟨j, v, by rw [e5]⟩, fun h => absurd hx h⟩
    · obtain ⟨u, hu⟩ := ix_some (xs := r.2.l) (i := (m.l.length : Int) - 1) (by rw [e1]; exact hd)
      rw [hu]
      exact ⟨_, rfl, ⟨mi.ar, mi.tb, mi.i, by simpa using mi.l1, by simpa using mi.l16, mi.no⟩, e3, .inr (by simp), fun _ => ⟨j, v, by show r.2.a.l = _; rw [e5]⟩, fun h => absurd hx h⟩
  rename_i hx
  have hx : ¬ (5 ≤ x.op ∧ x.op ≤ 7) := by simpa using hx
  split
  · rw [micro_jumps, if_pos g.a, if_pos g.b]
    have : ∃ b, (if (x.op == 8) = true then some true else if (x.op == 9) = true then some (y.r.get x.a == y.r.get x.b) else if (x.op == 10) = true then some (y.r.get x.a != y.r.get x.b) else some (decide (y.r.get x.a < y.r.get x.b))) = some b := by
      repeat' split
      all_goals exact ⟨_, rfl⟩
    obtain ⟨b, hb⟩ := this
    rw [hb]
    simp only [Option.bind_some]
    split
    · exact ⟨_, rfl, keep _ (by simp), rfl, .inr (by simp), fun h => absurd h hx, fun _ => ⟨[], by simp⟩⟩
    · exact ⟨_, rfl, keep _ (by simp), rfl, .inr (by simp), fun h => absurd h hx, fun _ => ⟨[], by simp⟩⟩
  split
  · obtain ⟨r, hr, mi, e1, e2⟩ := frames_some (x := x) o
    have mi2 : Mi r.2 (q + 1) := ⟨mi.ar, mi.tb, mi.i, mi.l1, mi.l16, Nat.le_succ_of_le mi.no⟩
    rw [hr]
    simp only [Option.bind_some]
    split
    · exact ⟨_, rfl, mi2, e1, .inr (by simp), fun h => absurd h hx, fun _ => ⟨[], by simp [e2]⟩⟩
    · exact ⟨_, rfl, mi2, e1, .inr (by simp), fun h => absurd h hx, fun _ => ⟨[], by simp [e2]⟩⟩
  simp only [if_pos g.a]
  split
  · exact ⟨_, rfl, ⟨o.ar, o.tb, o.i, by simpa using o.l1, by simpa using o.l16, Nat.le_succ_of_le o.no⟩, rfl, .inr (by simp), fun h => absurd h hx, fun _ => ⟨[], by simp⟩⟩
  split
  · obtain ⟨r, hr, hl⟩ := park_some m.t m.i (y.r.get x.a)
    rw [hr]
    simp only [Option.bind_some, hy]
    split
    · split
      · exact ⟨_, rfl, keepT _ _ (by simp) hl, rfl, .inr (by simp), fun h => absurd h hx, fun _ => ⟨[], by simp⟩⟩
      · exact ⟨_, rfl, keepT _ _ (by simp) hl, rfl, .inl rfl, fun h => absurd h hx, fun _ => ⟨[], by simp⟩⟩
    · exact ⟨_, rfl, keepT _ m.l rfl hl, rfl, .inr (by simp), fun h => absurd h hx, fun _ => ⟨[], by simp⟩⟩
  · obtain ⟨r, hr, mi, e1, e3, z, hz⟩ := plain_some o hq g hd
    rw [hr]
    simp only [Option.bind_some]
    split
    · exact ⟨_, rfl, mi, e3, .inr (by simp), fun h => absurd h hx, fun _ => ⟨z, hz⟩⟩
    · obtain ⟨u, hu⟩ := ix_some (xs := r.2.l) (i := (m.l.length : Int) - 1) (by rw [e1]; exact hd)
      rw [hu]
      exact ⟨_, rfl, ⟨mi.ar, mi.tb, mi.i, by simpa using mi.l1, by simpa using mi.l16, mi.no⟩, e3, .inr (by simp), fun h => absurd h hx, fun _ => ⟨z, hz⟩⟩
end Go.Proofs.Ytjdalhedpgiimaa
