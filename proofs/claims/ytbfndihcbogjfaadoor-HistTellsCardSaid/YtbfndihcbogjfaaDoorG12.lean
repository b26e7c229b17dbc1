/-
  Plain theorems, over any program: objects behind pointers: blocks and rows that are apart. Conditions: as said.
-/
import Derived.Test.YtbfndihcbogjfaaDoorG11
namespace Go.Proofs.YtbfndihcbogjfaaDoor.Gx
open Go Go.RowKit
/-- lists of blocks, one behind the other, and then L -/
def flat : List (List Nat) → List Nat → List Nat
  | [], L => L
  | A :: As, L => A ++ flat As L
/-- no block stands twice, and none stands in L -/
def Sep : List (List Nat) → List Nat → Prop
  | [], _ => True
  | A :: As, L => (∀ x ∈ A, x ∉ flat As L) ∧ Sep As L
section
variable {I : List (List Nat)} {L A B O O2 : List Nat} {i j b c : Nat}
theorem flat_mem {I : List (List Nat)} : ∀ {i : Nat}, I[i]? = some A → ∀ {x}, x ∈ A → x ∈ flat I L := by
  induction I with
  | nil => intro i h; simp at h
  | cons C I ih =>
    intro i h x hx
    cases i with
    | zero => simp at h; subst h; exact List.mem_append_left _ hx
    | succ i => exact List.mem_append_right _ (ih (by simpa using h) hx)
theorem flat_base {I : List (List Nat)} {x : Nat} (h : x ∈ L) : x ∈ flat I L := by
  induction I with
  | nil => exact h
  | cons C I ih => exact List.mem_append_right _ ih
theorem Sep.dl (h : Sep I L) (hi : I[i]? = some A) : ∀ x ∈ A, x ∉ L := by
  induction I generalizing i with
  | nil => simp at hi
  | cons C I ih =>
    cases i with
    | zero => simp at hi; subst hi; exact fun x hx hl => h.1 x hx (flat_base hl)
    | succ i => exact ih h.2 (by simpa using hi)
theorem Sep.dj' (h : Sep I L) (hij : i + 1 ≤ j) (hi : I[i]? = some A) (hj : I[j]? = some B) : ∀ x ∈ A, x ∉ B := by
  induction I generalizing i j with
  | nil => simp at hi
  | cons C I ih =>
    cases i with
    | zero =>
      obtain ⟨j, rfl⟩ : ∃ k, j = k + 1 := ⟨j - 1, by omega⟩
      simp at hi; subst hi
      exact fun x hx hb => h.1 x hx (flat_mem (by simpa using hj) hb)
    | succ i =>
      obtain ⟨j, rfl⟩ : ∃ k, j = k + 1 := ⟨j - 1, by omega⟩
      exact ih (i := i) (j := j) h.2 (by omega) (by simpa using hi) (by simpa using hj)
theorem Sep.dj (h : Sep I L) (hij : Nat.ble (i + 1) j = true) (hi : I[i]? = some A) (hj : I[j]? = some B) : ∀ x ∈ A, x ∉ B := h.dj' (Nat.le_of_ble_eq_true hij) hi hj
/-- two blocks -/
theorem Sep.bb (h : Sep I L) (hij : Nat.ble (i + 1) j = true) (hi : I[i]? = some [b]) (hj : I[j]? = some [c]) : b ≠ c := fun e => h.dj hij hi hj b (.head _) (e ▸ .head _)
/-- a block and a row -/
theorem Sep.bo (h : Sep I L) (hij : Nat.ble (i + 1) j = true) (hi : I[i]? = some [b]) (hj : I[j]? = some O) : b ∉ O := h.dj hij hi hj b (.head _)
theorem Sep.ob (h : Sep I L) (hij : Nat.ble (i + 1) j = true) (hi : I[i]? = some O) (hj : I[j]? = some [b]) : b ∉ O := fun hb => h.dj hij hi hj b hb (.head _)
theorem Sep.bl (h : Sep I L) (hi : I[i]? = some [b]) : b ∉ L := h.dl hi b (.head _)
theorem sepN : Sep [] L := trivial
theorem sepC (h1 : ∀ x ∈ A, x ∉ flat I L) (h2 : Sep I L) : Sep (A :: I) L := ⟨h1, h2⟩
theorem in1 {p : Nat → Prop} (h : p b) : ∀ x ∈ [b], p x := fun x hx => by simp at hx; subst hx; exact h
theorem not_nil {x : Nat} : x ∉ ([] : List Nat) := by simp
theorem nc {x : Nat} (h1 : x ≠ c) (h2 : x ∉ L) : x ∉ c :: L := fun h => by rcases List.mem_cons.1 h with h | h; exact h1 h; exact h2 h
theorem na {x : Nat} (h1 : x ∉ O) (h2 : x ∉ L) : x ∉ O ++ L := fun h => by rcases List.mem_append.1 h with h | h; exact h1 h; exact h2 h
theorem nbo {x : Nat} (h : b ∉ O) (hx : x ∈ O) : x ≠ b := fun e => h (e ▸ hx)
end
section
variable {S S1 S2 L L1 L2 B : List Nat} {w0 w w' : World} {b : Nat}
/-- behind a call: from the list of now to another one -/
theorem G.tC (g : G S w w') (hs : ∀ i ∈ S, i ∈ L) (hn : ∀ i ∈ L2, i ∈ L ∨ w.heap.size ≤ i) : Tr L w L2 w' := ⟨g.sz, fun i hi hi2 => g.old i hi (fun hm => hi2 (hs i hm)), hn⟩
theorem Cx.gs (c : Cx S w0 L w) (g : G S1 w w') (hs : ∀ i ∈ S1, i ∈ S ∨ w0.heap.size ≤ i) (hl : ∀ b ∈ L2, b < w'.heap.size) : Cx S w0 L2 w' := ⟨c.g.trans g hs, hl⟩
/-- what a call may have made, in the eyes of its caller -/
theorem frC (h : ∀ x ∈ B, x ∈ S1 ∨ w.heap.size ≤ x) (hs : ∀ i ∈ S1, i ∈ S ∨ w0.heap.size ≤ i) (hz : w0.heap.size ≤ w.heap.size) : ∀ x ∈ B, x ∈ S ∨ w0.heap.size ≤ x := fun x hx => by
  rcases h x hx with h | h
  · exact hs x h
  · exact .inr (Nat.le_trans hz h)
theorem frL (h : ∀ x ∈ B, x ∈ S1 ∨ w.heap.size ≤ x) (hs : ∀ i ∈ S1, i ∈ L) : ∀ x ∈ B, x ∈ L ∨ w.heap.size ≤ x := fun x hx => by
  rcases h x hx with h | h
  · exact .inl (hs x h)
  · exact .inr h
theorem memN {p : Nat → Prop} : ∀ x ∈ ([] : List Nat), p x := fun x h => by cases h
theorem memC {p : Nat → Prop} (h1 : p b) (h2 : ∀ x ∈ L, p x) : ∀ x ∈ b :: L, p x := fun x h => by rcases List.mem_cons.1 h with rfl | h; exact h1; exact h2 x h
theorem memA {p : Nat → Prop} (h1 : ∀ x ∈ B, p x) (h2 : ∀ x ∈ L, p x) : ∀ x ∈ B ++ L, p x := fun x h => by rcases List.mem_append.1 h with h | h; exact h1 x h; exact h2 x h
/-- an option that is split -/
def om {α β : Type} (o : Option α) (a : β) (f : α → β) : β := match o with | none => a | some y => f y
theorem omN {α β : Type} {o : Option α} {a : β} {f : α → β} (h : o = none) : om o a f = a := by subst h; rfl
theorem omS {α β : Type} {o : Option α} {a : β} {f : α → β} {y : α} (h : o = some y) : om o a f = f y := by subst h; rfl
end
end Go.Proofs.YtbfndihcbogjfaaDoor.Gx
