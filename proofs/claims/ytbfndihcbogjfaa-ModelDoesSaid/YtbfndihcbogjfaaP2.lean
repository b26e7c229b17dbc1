/-
  Plain: what was taken, and is freed, is as it was. Conditions: as the law's.
-/
import Derived.Test.YtbfndihcbogjfaaP1
namespace Go.Proofs.Ytbfndihcbogjfaa
open Go Go.RowKit Gx

theorem sameL (x : TThing) (hl : x.waiters.length ≤ 1000000) : ∀ (suf pre : List TWaiter) (k : Nat), x.waiters = pre ++ suf → suf.length < k → tholeref10_Same.l0 x x k (pre.length : Int) = some (.go ()) := by
  intro suf
  induction suf with
  | nil =>
    intro pre k e hk
    obtain ⟨k, rfl⟩ : ∃ m, k = m + 1 := ⟨k - 1, by simp at hk; omega⟩
    simp [tholeref10_Same.l0, e]
  | cons y suf ih =>
    intro pre k e hk
    obtain ⟨k, rfl⟩ : ∃ m, k = m + 1 := ⟨k - 1, by simp at hk; omega⟩
    have hlt : (pre.length : Int) < (x.waiters.length : Int) := by rw [e]; simp; omega
    have hg : x.waiters[pre.length]? = some y := by rw [e]; simp
    have hy : y.eqb y = true := (TWaiter.eqb_iff y y).2 rfl
    rw [tholeref10_Same.l0, if_pos (by simpa using hlt), ix_nat, hg]
    simp only [Option.bind_some, hy]
    have e2 : w64 ((pre.length : Int) + 1) = ((pre ++ [y]).length : Int) := by
      rw [w64_id]
      · simp
      · omega
    rw [if_neg (by simp), e2]
    exact ih (pre ++ [y]) k (by simp [e]) (by simp at hk; omega)
theorem same_refl (x : TThing) (hl : x.waiters.length ≤ 1000000) {k : Nat} (hk : x.waiters.length < k) : tholeref10_Same k x x = some true := by
  have h := sameL x hl x.waiters [] k rfl hk
  have hr : x.reads.eqb x.reads = true := (Arr8.eqb_iff _ _).2 rfl
  simp only [List.length_nil, Int.natCast_zero] at h
  rw [tholeref10_Same, h]
  simp [hr, Lp.k]
theorem up_eq (k : Nat) : tholelaw10_up (k + 1) = some true := by
  have e0 : model_New ⟨1, false, 0⟩ = some ⟨1, 0, -1, 0, Arr8.zero, [], -1, 0⟩ := rfl
  rw [tholelaw10_up, e0]
  simp only [Option.bind_some]
  rw [Do_eq _ _ (by simp), Do_eq _ _ (by simp)]
  simp [model_done, model_lock, waits_eq, model_free, w64_id]
theorem reads_eq (x : TThing) (k : Nat) : ∃ s, model_reads (k + 9) x = some s := by
  have st : ∀ (k : Nat) (s i : Int), 0 ≤ i ∧ i < 8 → ∃ s', model_reads.l0 x (k + 1) s i = model_reads.l0 x k s' (i + 1) := fun k s i h => by
    refine ⟨w64 (s + x.reads.get i), ?_⟩
    rw [model_reads.l0, if_pos (by simpa using h.2), if_pos h, show w64 (i + 1) = i + 1 from w64_id (by omega)]
  rw [model_reads]
  obtain ⟨s1, e1⟩ := st (k + 8) 0 0 (by omega)
  obtain ⟨s2, e2⟩ := st (k + 7) s1 (0 + 1) (by omega)
  obtain ⟨s3, e3⟩ := st (k + 6) s2 (0 + 1 + 1) (by omega)
  obtain ⟨s4, e4⟩ := st (k + 5) s3 (0 + 1 + 1 + 1) (by omega)
  obtain ⟨s5, e5⟩ := st (k + 4) s4 (0 + 1 + 1 + 1 + 1) (by omega)
  obtain ⟨s6, e6⟩ := st (k + 3) s5 (0 + 1 + 1 + 1 + 1 + 1) (by omega)
  obtain ⟨s7, e7⟩ := st (k + 2) s6 (0 + 1 + 1 + 1 + 1 + 1 + 1) (by omega)
  obtain ⟨s8, e8⟩ := st (k + 1) s7 (0 + 1 + 1 + 1 + 1 + 1 + 1 + 1) (by omega)
  exact ⟨s8, by rw [e1, e2, e3, e4, e5, e6, e7, e8, model_reads.l0]; simp⟩
theorem get_set (a : Arr8) {i : Int} (v : Int) (h : 0 ≤ i ∧ i < 8) : (a.set i v).get i = v := by
  obtain rfl | rfl | rfl | rfl | rfl | rfl | rfl | rfl : i = 0 ∨ i = 1 ∨ i = 2 ∨ i = 3 ∨ i = 4 ∨ i = 5 ∨ i = 6 ∨ i = 7 := by omega
  all_goals rfl
theorem set_set (a : Arr8) {i : Int} (v u : Int) (h : 0 ≤ i ∧ i < 8) : (a.set i v).set i u = a.set i u := by
  obtain rfl | rfl | rfl | rfl | rfl | rfl | rfl | rfl : i = 0 ∨ i = 1 ∨ i = 2 ∨ i = 3 ∨ i = 4 ∨ i = 5 ∨ i = 6 ∨ i = 7 := by omega
  all_goals rfl
theorem set_get (a : Arr8) {i : Int} (h : 0 ≤ i ∧ i < 8) : a.set i (a.get i) = a := by
  obtain rfl | rfl | rfl | rfl | rfl | rfl | rfl | rfl : i = 0 ∨ i = 1 ∨ i = 2 ∨ i = 3 ∨ i = 4 ∨ i = 5 ∨ i = 6 ∨ i = 7 := by omega
  all_goals rfl
/-- what the law asks of a thing -/
structure Ok (x : TThing) : Prop where
  len : x.waiters.length ≤ 100
  n0 : 0 ≤ x.n
  n1 : x.n ≤ 1000
  h0 : 0 ≤ x.holds
  h1 : x.holds ≤ 1000
  r : ∀ i, 0 ≤ i ∧ i < 8 → 0 ≤ x.reads.get i ∧ x.reads.get i ≤ 1000000
  sw : x.kind = 5 → x.offer = -1 → x.item = 0
  ow : x.owner = -1 ↔ x.holds = 0
theorem done_kind {x : TThing} {t : Int} {m : TNote} {k : Nat} (h : x.kind ≠ 1 ∧ x.kind ≠ 2 ∧ x.kind ≠ 3 ∧ x.kind ≠ 4 ∧ x.kind ≠ 5) : model_done k x t m = some (x, false) := by
  rw [model_done]; simp [h]
def Back (k : Nat) (x : TThing) (t : Int) (m f : TNote) : Prop := ∃ y b, model_Do k x t m = some (y, b) ∧ (b = true → x.kind ≠ 3 → model_Do k y t f = some (x, true))
theorem back_of {k : Nat} {x y : TThing} {t : Int} {m f : TNote} {b : Bool} (hx : x.waiters.length ≤ 1000000) (ht : 0 ≤ t ∧ t < 8) (hm : m.kind ≠ 17) (hf : f.kind ≠ 17) (hy : y.waiters.length ≤ 1000000) (e : model_done k x t m = some (y, b)) (h : b = true → x.kind ≠ 3 → model_done k y t f = some (x, true)) : Back k x t m f := by
  cases b with
  | false => exact ⟨x, false, by rw [Do_eq t m hx, if_neg (by omega), if_neg hm, e]; rfl, fun h => by cases h⟩
  | true =>
    refine ⟨y, true, by rw [Do_eq t m hx, if_neg (by omega), if_neg hm, e]; rfl, fun _ h3 => ?_⟩
    rw [Do_eq t f hy, if_neg (by omega), if_neg hf, h rfl h3]; rfl
theorem back_no {k : Nat} {x : TThing} {t : Int} {m f : TNote} (hx : x.waiters.length ≤ 1000000) (hm : m.kind ≠ 17) (h : model_done k x t m = some (x, false)) : Back k x t m f := by
  refine ⟨x, false, ?_, fun h => by cases h⟩
  rw [Do_eq t m hx, h, if_neg hm]
  by_cases ht : t < 0 ∨ 8 ≤ t
  · rw [if_pos ht]
  · rw [if_neg ht]; rfl
theorem back_out {k : Nat} {x : TThing} {t : Int} {m f : TNote} (hx : x.waiters.length ≤ 1000000) (ht : t < 0 ∨ 8 ≤ t) : Back k x t m f :=
  ⟨x, false, by rw [Do_eq t m hx, if_pos ht], fun h => by cases h⟩
theorem free_back {x : TThing} {t : Int} (o : Ok x) (ht : 0 ≤ t) (h : x.owner = -1 ∨ x.owner = t) : model_free { x with owner := t, holds := x.holds + 1 } = some x := by
  obtain ⟨_, _, _, h0, h1, _, _, ow⟩ := o
  obtain ⟨kd, n, owner, holds, reads, waiters, offer, item⟩ := x
  simp only at *
  rw [model_free]
  simp only [Int.add_sub_cancel, w64_id (show -9223372036854775808 ≤ holds ∧ holds ≤ 9223372036854775807 by omega)]
  by_cases hh : holds = 0
  · subst hh
    have := ow.2 rfl
    subst this
    simp
  · have h2 : owner = t := by
      rcases h with h | h
      · exact absurd (ow.1 h) hh
      · exact h
    subst h2
    simp [hh]
theorem back0 {x : TThing} {t v : Int} (o : Ok x) (hk : x.kind ≠ 2) (k : Nat) (hkk : 110 ≤ k) : Back k x t ⟨1, 1⟩ ⟨3, 0⟩ := by
  have hl : x.waiters.length ≤ 1000000 := Nat.le_trans o.len (by decide)
  have hlk : x.waiters.length < k := by have := o.len; omega
  by_cases ht : t < 0 ∨ 8 ≤ t
  · exact back_out hl ht
  have ht : 0 ≤ t ∧ t < 8 := by omega
  by_cases h1 : x.kind = 1
  · by_cases hc : x.owner = -1 ∧ (x.waiters.any fun y => y.thread == t) = false
    · refine back_of (y := { x with owner := t, holds := 1 }) (b := true) hl ht (by simp) (by simp) hl ?_ (fun _ _ => ?_)
      · rw [model_done, model_lock, waits_eq t hl hlk]
        simp [h1, hc.1, hc.2]
      · have hh := o.ow.1 hc.1
        have := free_back o ht.1 (.inl hc.1)
        rw [hh] at this
        rw [model_done, model_lock, show (1 : Int) = 0 + 1 from rfl, this]
        simp [h1]
    · refine back_of (y := { x with holds := x.holds + 1 }) (b := (x.owner == t) && decide (x.holds + 1 ≤ 1000)) hl ht (by simp) (by simp) hl ?_ (fun hb _ => ?_)
      · have e : w64 (x.holds + 1) = x.holds + 1 := w64_id (by have := o.h0; have := o.h1; omega)
        rw [model_done, model_lock, waits_eq t hl hlk, e]
        by_cases h5 : x.owner = -1
        · have h6 : (x.waiters.any fun y => y.thread == t) = true := by
            cases h : (x.waiters.any fun y => y.thread == t) with
            | true => rfl
            | false => exact absurd ⟨h5, h⟩ hc
          simp [h1, h5, h6]
        · simp [h1, h5]
      · simp at hb
        obtain ⟨rfl, hb⟩ := hb
        have := free_back o ht.1 (.inr rfl)
        rw [model_done, model_lock, this]
        simp [h1]
  by_cases h4 : x.kind = 4
  · obtain ⟨s, hs⟩ := reads_eq x (k - 9)
    rw [show k - 9 + 9 = k by omega] at hs
    have e : w64 (x.holds + 1) = x.holds + 1 := w64_id (by have := o.h0; have := o.h1; omega)
    refine back_of (y := { x with owner := t, holds := x.holds + 1 }) (b := ((x.owner == (-1)) && (s == 0)) || ((x.owner == t) && (decide (x.holds < 1000)))) hl ht (by simp) (by simp) hl ?_ (fun hb _ => ?_)
    · rw [model_done, model_rw, hs, e]
      simp [h4]
    · have ho : x.owner = -1 ∨ x.owner = t := by
        simp at hb
        rcases hb with hb | hb
        · exact .inl hb.1
        · exact .inr hb.1
      obtain ⟨s', hs'⟩ := reads_eq { x with owner := t, holds := x.holds + 1 } (k - 9)
      rw [show k - 9 + 9 = k by omega] at hs'
      rw [model_done, model_rw, hs', free_back o ht.1 ho]
      simp [h4]
  by_cases h3 : x.kind = 3
  · refine ⟨x, (x.n == 0) && false, ?_, fun h => by simp at h⟩
    rw [Do_eq t _ hl, if_neg (by omega), model_done, model_latch]
    simp [h3]
  by_cases h5 : x.kind = 5
  · refine back_no hl (by simp) ?_
    rw [model_done, model_swap]
    simp [h5]
  · exact back_no hl (by simp) (done_kind ⟨h1, hk, h3, h4, h5⟩)
theorem back1 {x : TThing} {t v : Int} (o : Ok x) (hv : wfI .i64 v) (hk : x.kind = 2) (k : Nat) : Back k x t ⟨1, v⟩ ⟨3, v⟩ := by
  have hl : x.waiters.length ≤ 1000000 := Nat.le_trans o.len (by decide)
  have hv := wfI64 hv
  have hn0 := o.n0
  have hn1 := o.n1
  by_cases ht : t < 0 ∨ 8 ≤ t
  · exact back_out hl ht
  have ht : 0 ≤ t ∧ t < 8 := by omega
  by_cases hc : 1 ≤ v ∧ v ≤ x.n
  · refine back_of (y := { x with n := x.n - v }) (b := true) hl ht (by simp) (by simp) hl ?_ (fun _ _ => ?_)
    · rw [model_done, model_sema, w64_id (n := x.n - v) (by omega)]
      have : ¬ x.n < v := by omega
      simp [hk, hc.1, this]
    · rw [model_done, model_sema]
      have e1 : w64 (1000 - (x.n - v)) = 1000 - (x.n - v) := w64_id (by omega)
      have e2 : w64 (x.n - v + v) = x.n := by rw [w64_id (by omega)]; omega
      have : ¬ 1000 - (x.n - v) < v := by omega
      have e3 : w64 x.n = x.n := w64_id (by omega)
      simp [hk, hc.1, e1, e3, this]
      obtain ⟨kd, n, owner, holds, reads, waiters, offer, item⟩ := x
      simp only at hk; subst hk; rfl
  · refine back_no hl (by simp) ?_
    rw [model_done, model_sema]
    simp [hk]
    rw [if_pos (by omega)]; rfl
theorem back2 {x : TThing} {t : Int} (o : Ok x) (k : Nat) (hkk : 110 ≤ k) : Back k x t ⟨2, 0⟩ ⟨4, 0⟩ := by
  have hl : x.waiters.length ≤ 1000000 := Nat.le_trans o.len (by decide)
  by_cases ht : t < 0 ∨ 8 ≤ t
  · exact back_out hl ht
  have ht : 0 ≤ t ∧ t < 8 := by omega
  by_cases h4 : x.kind = 4
  · obtain ⟨s, hs⟩ := reads_eq x (k - 9)
    rw [show k - 9 + 9 = k by omega] at hs
    have hr := o.r t ht
    have e : w64 (x.reads.get t + 1) = x.reads.get t + 1 := w64_id (by omega)
    refine back_of (y := { x with reads := x.reads.set t (x.reads.get t + 1) }) (b := ((x.owner == (-1)) || (x.owner == t)) && (decide (s < 1000))) hl ht (by simp) (by simp) hl ?_ (fun hb _ => ?_)
    · rw [model_done, model_rw, hs, e]
      simp [h4, ht]
    · obtain ⟨s', hs'⟩ := reads_eq { x with reads := x.reads.set t (x.reads.get t + 1) } (k - 9)
      rw [show k - 9 + 9 = k by omega] at hs'
      have e3 : w64 (x.reads.get t + 1 - 1) = x.reads.get t := by rw [w64_id (by omega)]; omega
      have e4 : w64 (x.reads.get t) = x.reads.get t := w64_id (by omega)
      rw [model_done, model_rw, hs']
      simp [h4, get_set _ _ ht, set_set _ _ _ ht, ht, e4, hr.1]
      rw [set_get _ ht]
      obtain ⟨kd, n, owner, holds, reads, waiters, offer, item⟩ := x
      simp only at h4; subst h4; rfl
  by_cases h1 : x.kind = 1
  · refine back_no hl (by simp) ?_
    rw [model_done, model_lock, model_signal]; simp [h1]
  by_cases h2 : x.kind = 2
  · refine back_no hl (by simp) ?_
    rw [model_done, model_sema]; simp [h2]
  by_cases h3 : x.kind = 3
  · refine back_no hl (by simp) ?_
    rw [model_done, model_latch]; simp [h3]
  by_cases h5 : x.kind = 5
  · refine back_no hl (by simp) ?_
    rw [model_done, model_swap]; simp [h5]
  · exact back_no hl (by simp) (done_kind ⟨h1, h2, h3, h4, h5⟩)
theorem back3 {x : TThing} {t v : Int} (o : Ok x) (k : Nat) (hkk : 110 ≤ k) : Back k x t ⟨15, v⟩ ⟨16, 0⟩ := by
  have hl : x.waiters.length ≤ 1000000 := Nat.le_trans o.len (by decide)
  by_cases ht : t < 0 ∨ 8 ≤ t
  · exact back_out hl ht
  have ht : 0 ≤ t ∧ t < 8 := by omega
  by_cases h5 : x.kind = 5
  · by_cases hc : x.offer = -1 ∧ 0 ≤ v ∧ v ≤ 1000
    · refine back_of (y := { x with offer := t, item := v }) (b := true) hl ht (by simp) (by simp) hl ?_ (fun _ _ => ?_)
      · rw [model_done, model_swap]
        have a : ¬ v < 0 := by omega
        have b : ¬ 1000 < v := by omega
        simp [h5, hc.1, a, b]
      · have hi := o.sw h5 hc.1
        have ho := hc.1
        obtain ⟨kd, n, owner, holds, reads, waiters, offer, item⟩ := x
        simp only at hi ho h5
        subst hi ho h5
        rw [model_done, model_swap]
        simp
    · refine back_no hl (by simp) ?_
      rw [model_done, model_swap]
      simp [h5]
      rw [if_pos (by omega)]; rfl
  by_cases h4 : x.kind = 4
  · obtain ⟨s, hs⟩ := reads_eq x (k - 9)
    rw [show k - 9 + 9 = k by omega] at hs
    refine back_no hl (by simp) ?_
    rw [model_done, model_rw, hs]; simp [h4]
  by_cases h1 : x.kind = 1
  · refine back_no hl (by simp) ?_
    rw [model_done, model_lock, model_signal]; simp [h1]
  by_cases h2 : x.kind = 2
  · refine back_no hl (by simp) ?_
    rw [model_done, model_sema]; simp [h2]
  by_cases h3 : x.kind = 3
  · refine back_no hl (by simp) ?_
    rw [model_done, model_latch]; simp [h3]
  · exact back_no hl (by simp) (done_kind ⟨h1, h2, h3, h4, h5⟩)
end Go.Proofs.Ytbfndihcbogjfaa
