/-
  Plain lemmas on lists of those who wait: what the functions of package model and of the document's answer come to. Conditions: at most 1,000,000 wait.
-/
import Derived.Test.YtbfndihcbogjfaaP2
namespace Go.Proofs.Ytbfndihcbogjfaa
open Go Go.RowKit Gx

theorem placeL (x : TThing) (t : Int) (hl : x.waiters.length ≤ 1000000) : ∀ (suf pre : List TWaiter) (k : Nat), x.waiters = pre ++ suf → suf.length < k →
    tholeref10_place.l0 x t k (pre.length : Int) = some (match suf.findIdx? (fun y => y.thread == t) with | some j => .ret ((pre.length + j : Nat) : Int) | none => .go ()) := by
  intro suf
  induction suf with
  | nil =>
    intro pre k e hk
    obtain ⟨k, rfl⟩ : ∃ m, k = m + 1 := ⟨k - 1, by simp at hk; omega⟩
    simp [tholeref10_place.l0, e]
  | cons y suf ih =>
    intro pre k e hk
    obtain ⟨k, rfl⟩ : ∃ m, k = m + 1 := ⟨k - 1, by simp at hk; omega⟩
    have hlt : (pre.length : Int) < (x.waiters.length : Int) := by rw [e]; simp; omega
    have hg : x.waiters[pre.length]? = some y := by rw [e]; simp
    rw [tholeref10_place.l0, if_pos (by simpa using hlt), ix_nat, hg]
    simp only [Option.bind_some]
    by_cases hp : (y.thread == t) = true
    · simp [hp, List.findIdx?_cons]
    · rw [if_neg hp]
      have e2 : w64 ((pre.length : Int) + 1) = ((pre ++ [y]).length : Int) := by
        rw [w64_id]
        · simp
        · omega
      rw [e2, ih (pre ++ [y]) k (by simp [e]) (by simp at hk; omega)]
      simp only [List.findIdx?_cons, hp]
      cases suf.findIdx? (fun y => y.thread == t) <;> simp; omega
/-- where a thread waits first, or -1 -/
def pos (l : List TWaiter) (t : Int) : Int := match l.findIdx? (fun y => y.thread == t) with | some j => (j : Int) | none => -1
theorem place_eq {x : TThing} (t : Int) (hl : x.waiters.length ≤ 1000000) {k : Nat} (hk : x.waiters.length < k) : tholeref10_place k x t = some (pos x.waiters t) := by
  have := placeL x t hl x.waiters [] k rfl hk
  simp only [List.length_nil, Int.natCast_zero] at this
  rw [tholeref10_place, this, pos]
  cases x.waiters.findIdx? (fun y => y.thread == t) <;> simp [Lp.k]
theorem pos_neg {l : List TWaiter} {t : Int} : pos l t < 0 ↔ (l.any fun y => y.thread == t) = false := by
  unfold pos
  cases h : l.findIdx? (fun y => y.thread == t) with
  | none =>
    rw [List.findIdx?_eq_none_iff] at h
    simp
    intro y hy
    simpa using h y hy
  | some j =>
    obtain ⟨hj, h1, _⟩ := List.findIdx?_eq_some_iff_getElem.1 h
    simp
    constructor
    · intro h; omega
    · intro h; exact absurd (by simpa using h1) (h _ (List.getElem_mem hj))
theorem withoutL (l : List TWaiter) (a : Nat) (hl : l.length ≤ 1000000) : ∀ (suf pre out : List TWaiter) (k : Nat), l = pre ++ suf → suf.length < k → out.length ≤ pre.length →
    tholeref10_without.l0 l (a : Int) k out (pre.length : Int) = some (out ++ if pre.length ≤ a then suf.eraseIdx (a - pre.length) else suf) := by
  intro suf
  induction suf with
  | nil =>
    intro pre out k e hk ho
    obtain ⟨k, rfl⟩ : ∃ m, k = m + 1 := ⟨k - 1, by simp at hk; omega⟩
    subst e
    simp [tholeref10_without.l0]
  | cons y suf ih =>
    intro pre out k e hk ho
    obtain ⟨k, rfl⟩ : ∃ m, k = m + 1 := ⟨k - 1, by simp at hk; omega⟩
    have hlt : (pre.length : Int) < (l.length : Int) := by rw [e]; simp; omega
    have hg : l[pre.length]? = some y := by rw [e]; simp
    have e2 : w64 ((pre.length : Int) + 1) = ((pre ++ [y]).length : Int) := by
      rw [w64_id]
      · simp
      · omega
    rw [tholeref10_without.l0, if_pos (by simpa using hlt)]
    by_cases hp : pre.length = a
    · rw [if_neg (by simp [hp]), e2, ih (pre ++ [y]) out k (by simp [e]) (by simp at hk; omega) (by simp; omega)]
      simp [hp]
      intro h; omega
    · rw [if_pos (by simp; omega), ix_nat, hg]
      simp only [Option.bind_some]
      rw [app_ok (by simp [lim]; omega)]
      simp only [Option.bind_some]
      rw [e2, ih (pre ++ [y]) (out ++ [y]) k (by simp [e]) (by simp at hk; omega) (by simp; omega)]
      by_cases hc : pre.length ≤ a
      · rw [if_pos hc, if_pos (by simp; omega)]
        obtain ⟨m, hm⟩ : ∃ m, a - pre.length = m + 1 := ⟨a - pre.length - 1, by omega⟩
        rw [hm, show a - (pre ++ [y]).length = m by simp; omega]
        simp
      · rw [if_neg hc, if_neg (by simp; omega)]
        simp
theorem without_eq {l : List TWaiter} (a : Nat) (hl : l.length ≤ 1000000) {k : Nat} (hk : l.length < k) : tholeref10_without k l (a : Int) = some (l.eraseIdx a) := by
  have := withoutL l a hl l [] [] k rfl hk (by simp)
  simp only [List.length_nil, Int.natCast_zero] at this
  rw [tholeref10_without, this]
  simp
theorem filter_erase {l : List TWaiter} {p : TWaiter → Bool} : ∀ (j : Nat) (h : j < l.length), p l[j] = false → (l.eraseIdx j).filter p = l.filter p := by
  induction l with
  | nil => intro j h; simp at h
  | cons y l ih =>
    intro j h hp
    cases j with
    | zero =>
      simp at hp
      simp [hp]
    | succ j =>
      simp only [List.eraseIdx_cons_succ, List.filter_cons]
      rw [ih j (by simpa using h) (by simpa using hp)]
theorem lockL (x : TThing) (t : Int) : ∀ (n : Nat) (l : List TWaiter) (k : Nat), l.length = n → n ≤ 1000000 → 2 * n + 2 < k → tholeref10_lock.l0 x t k l (pos l t) = some (l.filter fun y => !(y.thread == t)) := by
  intro n
  induction n with
  | zero =>
    intro l k hl _ hk
    obtain ⟨k, rfl⟩ : ∃ m, k = m + 1 := ⟨k - 1, by omega⟩
    obtain rfl := List.eq_nil_of_length_eq_zero hl
    simp [tholeref10_lock.l0, pos]
  | succ n ih =>
    intro l k hl hn hk
    obtain ⟨k, rfl⟩ : ∃ m, k = m + 1 := ⟨k - 1, by omega⟩
    rw [tholeref10_lock.l0]
    cases h : l.findIdx? (fun y => y.thread == t) with
    | none =>
      have hp : pos l t = -1 := by simp [pos, h]
      rw [hp, if_neg (by simp)]
      rw [List.findIdx?_eq_none_iff] at h
      congr 1
      symm
      rw [List.filter_eq_self]
      intro y hy
      simpa using h y hy
    | some j =>
      have hp : pos l t = (j : Int) := by simp [pos, h]
      obtain ⟨hj, h1, _⟩ := List.findIdx?_eq_some_iff_getElem.1 h
      have he : (l.eraseIdx j).length = n := by rw [List.length_eraseIdx, if_pos hj]; omega
      rw [hp, if_pos (by simp), without_eq j (by omega) (by omega)]
      simp only [Option.bind_some]
      rw [place_eq (x := { x with waiters := l.eraseIdx j }) t (by simp only; omega) (by simp only; omega)]
      simp only [Option.bind_some]
      rw [ih (l.eraseIdx j) k he (by omega) (by omega), filter_erase j hj (by simpa using h1)]
theorem delL {f : TWaiter → Option Bool} {p : TWaiter → Bool} (hf : ∀ y, f y = some (p y)) (n : Nat) (hn : n ≤ 1000000) : ∀ (suf A B : List TWaiter) (k : Nat), A.length + B.length + suf.length = n → suf.length < k →
    ∃ B', slices_DeleteFunc_Waiter.l0 f k (A ++ B ++ suf) (A.length : Int) ((A.length + B.length : Nat) : Int) = some (A ++ suf.filter (fun y => !p y) ++ B', ((A ++ suf.filter (fun y => !p y)).length : Int)) := by
  intro suf
  induction suf with
  | nil =>
    intro A B k e hk
    obtain ⟨k, rfl⟩ : ∃ m, k = m + 1 := ⟨k - 1, by simp at hk; omega⟩
    refine ⟨B, ?_⟩
    rw [slices_DeleteFunc_Waiter.l0, if_neg (by simp)]
    simp
  | cons y suf ih =>
    intro A B k e hk
    obtain ⟨k, rfl⟩ : ∃ m, k = m + 1 := ⟨k - 1, by simp at hk; omega⟩
    simp only [List.length_cons] at e hk
    have hg : (A ++ B ++ y :: suf)[A.length + B.length]? = some y := by
      rw [List.getElem?_append_right (by simp)]; simp
    have e2 : w64 (((A.length + B.length : Nat) : Int) + 1) = ((A.length + B.length + 1 : Nat) : Int) := by rw [w64_id (by omega)]; omega
    have e3 : w64 ((A.length : Int) + 1) = ((A.length + 1 : Nat) : Int) := by rw [w64_id (by omega)]; omega
    rw [slices_DeleteFunc_Waiter.l0, if_pos (by simp; omega), ix_nat, hg]
    simp only [Option.bind_some, hf]
    by_cases hp : p y = true
    · rw [if_neg (by simp [hp]), e2]
      have := ih A (B ++ [y]) k (by simp; omega) (by omega)
      simpa [hp, Nat.add_assoc] using this
    · have hg2 : ∃ z, (A ++ B ++ y :: suf)[A.length]? = some z := ⟨_, List.getElem?_eq_getElem (by simp; omega)⟩
      obtain ⟨z, hg2⟩ := hg2
      rw [if_pos (by simpa using hp), ix_nat, hg2]
      simp only [Option.bind_some]
      rw [e2, e3]
      cases B with
      | nil =>
        have hs : (A ++ [] ++ y :: suf).set (A.length : Int).toNat y = (A ++ [y]) ++ [] ++ suf := by simp
        rw [hs]
        have := ih (A ++ [y]) [] k (by simp; simp at e; omega) (by omega)
        simpa [hp] using this
      | cons b B =>
        have hs : (A ++ (b :: B) ++ y :: suf).set (A.length : Int).toNat y = (A ++ [y]) ++ (B ++ [y]) ++ suf := by simp
        rw [hs]
        have := ih (A ++ [y]) (B ++ [y]) k (by simp; simp at e; omega) (by omega)
        have e4 : (A ++ [y]).length + (B ++ [y]).length = A.length + (b :: B).length + 1 := by simp; omega
        rw [e4] at this
        simpa [hp] using this
theorem del_eq {f : TWaiter → Option Bool} {p : TWaiter → Bool} (hf : ∀ y, f y = some (p y)) {xs : List TWaiter} (hl : xs.length ≤ 1000000) {k : Nat} (hk : xs.length < k) : slices_DeleteFunc_Waiter k xs f = some (xs.filter fun y => !p y) := by
  rw [slices_DeleteFunc_Waiter, idxF_eq hf hl hk]
  cases h : xs.findIdx? p with
  | none =>
    rw [List.findIdx?_eq_none_iff] at h
    simp
    symm
    rw [List.filter_eq_self]
    intro y hy
    simpa using h y hy
  | some j =>
    obtain ⟨hj, h1, h2⟩ := List.findIdx?_eq_some_iff_getElem.1 h
    have hfl : (xs.take j).filter (fun y => !p y) = xs.take j := by
      rw [List.filter_eq_self]
      intro y hy
      obtain ⟨i, hi, rfl⟩ := List.getElem_of_mem hy
      simp only [List.length_take] at hi
      rw [List.getElem_take]
      simpa using h2 i (by omega)
    have hx : xs = xs.take j ++ [xs[j]] ++ xs.drop (j + 1) := by simp
    have hfx : xs.filter (fun y => !p y) = xs.take j ++ (xs.drop (j + 1)).filter (fun y => !p y) := by
      conv => lhs; rw [hx]
      rw [List.filter_append, List.filter_append, hfl]
      simp [h1]
    have htl : (xs.take j).length = j := by simp; omega
    obtain ⟨B', hB⟩ := delL hf xs.length hl (xs.drop (j + 1)) (xs.take j) [xs[j]] k (by simp; omega) (by simp; omega)
    rw [← hx, htl, ← hfx] at hB
    have e2 : w64 ((j : Int) + 1) = ((j + 1 : Nat) : Int) := (w64_id (n := (j : Int) + 1) (by omega)).trans (by omega)
    simp only [Option.bind_some]
    rw [if_neg (by simp), e2]
    have hB : slices_DeleteFunc_Waiter.l0 f k xs (j : Int) ((j + 1 : Nat) : Int) = _ := hB
    rw [hB]
    simp only [Option.bind_some]
    generalize xs.filter (fun y => !p y) = Z
    have s1 : slc (Z ++ B') (Z.length : Int) ((Z ++ B').length : Int) = some B' := by
      have hz : (Z ++ B').length = Z.length + B'.length := List.length_append
      unfold slc
      rw [if_pos ⟨by omega, by omega, by omega⟩, hz, Int.toNat_natCast, Int.toNat_natCast, List.take_of_length_le (by omega), List.drop_left]
    rw [s1]
    simp only [Option.bind_some]
    have s2 : ∀ C : List TWaiter, slc (Z ++ C) 0 (Z.length : Int) = some Z := fun C => by
      have hz : (Z ++ C).length = Z.length + C.length := List.length_append
      unfold slc
      rw [if_pos ⟨by omega, by omega, by omega⟩, Int.toNat_natCast]
      simp
    rw [Int.toNat_natCast, List.take_left, s2]
    rfl
end Go.Proofs.Ytbfndihcbogjfaa
