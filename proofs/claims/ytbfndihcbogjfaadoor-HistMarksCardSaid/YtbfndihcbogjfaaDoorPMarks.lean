/-
  Plain: the law HistMarks of the pure functions. Conditions: none but what each argument's type asks.
-/
import Derived.Test.YtbfndihcbogjfaaDoorPH
namespace Go.Proofs.YtbfndihcbogjfaaDoor
open Go Go.RowKit Gx

def isM (e : TEvent) : Bool := e.kind == 2
def K (l : List TEvent) : List Int := (l.filter isM).map (·.note.kind)
theorem K_app (a b : List TEvent) : K (a ++ b) = K a ++ K b := by simp [K]
theorem ords_count (l : List TEvent) (q : Int) : (ords l q).length = (K l).count q := by
  induction l with
  | nil => rfl
  | cons e l ih =>
    simp only [ords, K, List.length_map] at ih ⊢
    by_cases h2 : e.kind = 2
    · by_cases hq : e.note.kind = q
      · simp [List.filter_cons, isK, isM, h2, hq, ih]
      · simp [List.filter_cons, isK, isM, h2, hq, ih]
    · simp [List.filter_cons, isK, isM, h2, ih]
theorem cnt_add (M P : List Int) (a : Int) (h : a ∉ P) : M.countP (fun x => decide (x ∈ P ++ [a])) = M.countP (fun x => decide (x ∈ P)) + M.count a := by
  induction M with
  | nil => rfl
  | cons x M ih =>
    rw [List.countP_cons, List.countP_cons, List.count_cons, ih]
    by_cases hx : x = a
    · subst hx; simp [h]; omega
    · by_cases hp : x ∈ P <;> simp [hx, hp] <;> omega
theorem cnt_same (M P : List Int) (a : Int) (h : a ∈ P) : M.countP (fun x => decide (x ∈ P ++ [a])) = M.countP (fun x => decide (x ∈ P)) := by
  congr 1
  funext x
  by_cases hx : x = a
  · subst hx; simp [h]
  · simp [hx]
theorem first_l1 (l : List TEvent) (hl : l.length ≤ 1000000) (pre : List TEvent) (e : TEvent) (suf : List TEvent) (h : l = pre ++ e :: suf) : ∀ (s p : List TEvent) (k : Nat) (b : Bool), pre = p ++ s → s.length < k →
    tholelaw20_HistMarks.l1 l (pre.length : Int) k (p.length : Int) b = some ((pre.length : Int), b && decide (e.note.kind ∉ K s)) := by
  intro s
  induction s with
  | nil =>
    intro p k b hp hk
    obtain ⟨k, rfl⟩ : ∃ k', k = k' + 1 := ⟨k - 1, by omega⟩
    rw [tholelaw20_HistMarks.l1, if_neg (by subst hp; simp)]
    subst hp
    simp [K]
  | cons x s ih =>
    intro p k b hp hk
    obtain ⟨k, rfl⟩ : ∃ k', k = k' + 1 := ⟨k - 1, by omega⟩
    simp only [List.length_cons] at hk
    have h2 : l = p ++ x :: (s ++ e :: suf) := by rw [h, hp]; simp
    rw [tholelaw20_HistMarks.l1, if_pos (by subst hp; simp; omega), at_ h2, nx_ h2 hl, at_ h]
    simp only [Option.bind_some]
    have hK : K (x :: s) = if x.kind = 2 then x.note.kind :: K s else K s := by
      by_cases hx : x.kind = 2 <;> simp [K, isM, hx, List.filter_cons]
    cases b with
    | false =>
      simp only [Bool.false_eq_true, if_false, Option.bind_some]
      rw [ih (p ++ [x]) k _ (by rw [hp]; simp) (by omega)]
      simp
    | true =>
      simp only [if_true]
      by_cases hx : x.kind = 2
      · rw [if_neg (by simp [hx])]
        simp only [Option.bind_some]
        rw [ih (p ++ [x]) k _ (by rw [hp]; simp) (by omega), hK, if_pos hx]
        by_cases hn : x.note.kind = e.note.kind
        · simp [hn]
        · simp [hn, Ne.symm hn]
      · rw [if_pos (by simp [hx])]
        simp only [Option.bind_some]
        rw [ih (p ++ [x]) k _ (by rw [hp]; simp) (by omega), hK, if_neg hx]
theorem marks_l0 (l : List TEvent) (hl : l.length ≤ 500) : ∀ (suf pre : List TEvent) (k : Nat), l = pre ++ suf → suf.length + 600 ≤ k →
    tholelaw20_HistMarks.l0 l k ((K pre).length : Int) (((K l).countP fun x => decide (x ∈ K pre) : Nat) : Int) (pre.length : Int) = some (((K l).length : Int), ((K l).length : Int)) := by
  intro suf
  induction suf with
  | nil =>
    intro pre k h hk
    obtain ⟨k, rfl⟩ : ∃ k', k = k' + 1 := ⟨k - 1, by omega⟩
    rw [tholelaw20_HistMarks.l0, if_neg (nlt_ h)]
    have hp : pre = l := by rw [h]; simp
    subst hp
    rw [show ((K pre).countP fun x => decide (x ∈ K pre)) = (K pre).length from List.countP_eq_length.2 (by simp)]
  | cons e suf ih =>
    intro pre k h hk
    obtain ⟨k, rfl⟩ : ∃ k', k = k' + 1 := ⟨k - 1, by omega⟩
    simp only [List.length_cons] at hk
    have hpl : pre.length + 1 ≤ l.length := by rw [h]; simp
    have hKl : (K pre).length ≤ pre.length := by simp [K]; exact List.length_filter_le _ _
    have hKk : (K l).length ≤ l.length := by simp [K]; exact List.length_filter_le _ _
    rw [tholelaw20_HistMarks.l0, if_pos (lt_ h), at_ h, nx_ h (by omega)]
    simp only [Option.bind_some]
    have hK : K (pre ++ [e]) = if e.kind = 2 then K pre ++ [e.note.kind] else K pre := by
      by_cases hx : e.kind = 2 <;> simp [K, isM, hx]
    by_cases h2 : e.kind = 2
    · rw [if_pos h2] at hK
      rw [if_neg (by simp [h2])]
      have hf := first_l1 l (by omega) pre e suf h pre [] k true rfl (by omega)
      rw [show ((([] : List TEvent).length : Nat) : Int) = 0 from rfl] at hf
      rw [hf]
      simp only [Option.bind_some, Bool.true_and]
      have h1 : w64 (((K pre).length : Int) + 1) = ((K (pre ++ [e])).length : Int) := by
        rw [hK, w64_id (by omega)]; simp
      rw [h1]
      by_cases hm : e.note.kind ∈ K pre
      · rw [if_neg (by simp [hm])]
        have := ih (pre ++ [e]) k (sh_ h) (by omega)
        rw [← cnt_same (K l) (K pre) _ hm, ← hK]
        exact this
      · rw [if_pos (by simp [hm]), marks_eq l _ (by omega) (by omega)]
        simp only [Option.bind_some]
        have hc := cnt_add (K l) (K pre) _ hm
        rw [← hK] at hc
        have hle : ((K l).countP fun x => decide (x ∈ K (pre ++ [e]))) ≤ (K l).length := List.countP_le_length
        have := ih (pre ++ [e]) k (sh_ h) (by omega)
        rw [ords_count, show w64 ((((K l).countP fun x => decide (x ∈ K pre) : Nat) : Int) + ((K l).count e.note.kind : Int)) = (((K l).countP fun x => decide (x ∈ K (pre ++ [e])) : Nat) : Int) from by
          rw [w64_id (by omega)]; omega]
        exact this
    · rw [if_neg h2] at hK
      rw [if_pos (by simp [h2])]
      have := ih (pre ++ [e]) k (sh_ h) (by omega)
      rw [hK] at this
      exact this
theorem up_eq : tholelaw20_up 2000 = some true := by decide +kernel
theorem told (x0 : List TEvent) (x1 : Int) (_ : (x0.length ≤ maxLen ∧ ∀ y ∈ x0, TEvent.wf y)) (_ : wfI .i64 x1) : ∃ k, tholelaw20_HistMarks k x0 x1 = some true := by
  refine ⟨2000, ?_⟩
  rw [tholelaw20_HistMarks, up_eq]
  simp only [Option.bind_some]
  by_cases hl : 500 < (x0.length : Int)
  · rw [if_pos (by simpa using hl)]
    simp only [Option.bind_some, if_true, decide_eq_true hl]
    rfl
  · have hl2 : x0.length ≤ 500 := by omega
    rw [if_neg (by simpa using hl), marks_eq x0 x1 (by omega) (by omega), order_eq x0 x1 (by omega) (by omega)]
    simp only [Option.bind_some]
    rw [if_neg (by simp)]
    have := marks_l0 x0 hl2 x0 [] 2000 rfl (by omega)
    rw [show (((K []).length : Nat) : Int) = 0 from rfl, show (((K x0).countP fun x => decide (x ∈ K []) : Nat) : Int) = 0 from by simp [K], show ((([] : List TEvent).length : Nat) : Int) = 0 from rfl] at this
    rw [this]
    simp
end Go.Proofs.YtbfndihcbogjfaaDoor
