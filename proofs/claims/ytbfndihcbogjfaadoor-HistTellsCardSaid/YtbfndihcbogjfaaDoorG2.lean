/-
  Plain theorems, over any program: values, memory, one theorem an operation. Conditions: none.
-/
import Derived.Test.YtbfndihcbogjfaaDoorG1
namespace Go.Proofs.YtbfndihcbogjfaaDoor.Gx
open Go Go.RowKit

/-! ### memory -/
def Bk (w : World) (b : Nat) (l : List Value) (T : TypeId) : Prop := w.heap[b]? = some (.cells l.toArray T (0, 0))
def Cl (w : World) (b o : Nat) (cs : List Value) : Prop := ∀ (j : Nat) (v : Value), cs[j]? = some v → w.cell? ⟨b, o + j, none⟩ = some v

/-- From w to w' the blocks of S alone may have turned. -/
structure G (S : List Nat) (w w' : World) : Prop where
  os : w'.os = w.os
  tape : w'.tape = w.tape
  output : w'.output = w.output
  sz : w.heap.size ≤ w'.heap.size
  old : ∀ i, i < w.heap.size → i ∉ S → w'.heap[i]? = w.heap[i]?

def Tr (L : List Nat) (w : World) (L' : List Nat) (w' : World) : Prop :=
  w.heap.size ≤ w'.heap.size ∧ (∀ i, i < w.heap.size → i ∉ L → w'.heap[i]? = w.heap[i]?) ∧ (∀ i ∈ L', i ∈ L ∨ w.heap.size ≤ i)

section mem
variable {w w' w'' : World} {b o T : Nat} {l cs : List Value} {v : Value} {S S' L L' L'' : List Nat}
theorem Bk.lt (h : Bk w b l T) : b < w.heap.size := (Array.getElem?_eq_some_iff.1 h).1
theorem Bk.cl (h : Bk w b l T) : Cl w b 0 l := fun j v hv => by simpa [World.cell?, show w.heap[b]? = _ from h] using hv
theorem G.refl (S : List Nat) (w : World) : G S w w := ⟨rfl, rfl, rfl, Nat.le_refl _, fun _ _ _ => rfl⟩
theorem G.trans (h : G S w w') (k : G S' w' w'') (hs : ∀ i ∈ S', i ∈ S ∨ w.heap.size ≤ i) : G S w w'' :=
  ⟨k.os.trans h.os, k.tape.trans h.tape, k.output.trans h.output, Nat.le_trans h.sz k.sz, fun i hi hn =>
    (k.old i (Nat.lt_of_lt_of_le hi h.sz) (fun hm => by rcases hs i hm with h1 | h1; exact hn h1; omega)).trans (h.old i hi hn)⟩
theorem G.tr0 (h : G S w w') (k : G [] w' w'') : G S w w'' := h.trans k (fun _ h => by cases h)
/-- what was written is new, or may be written -/
theorem G.tr1 (h : G S w w') (k : G [b] w' w'') (hb : w.heap.size ≤ b) : G S w w'' := h.trans k (fun i hi => by simp at hi; subst hi; exact .inr hb)
theorem G.tr1s (h : G S w w') (k : G [b] w' w'') (hb : b ∈ S) : G S w w'' := h.trans k (fun i hi => by simp at hi; subst hi; exact .inl hb)
theorem G.sub (h : G S w w') (hs : ∀ i ∈ S, i ∈ S') : G S' w w' := ⟨h.os, h.tape, h.output, h.sz, fun i hi hn => h.old i hi (fun hm => hn (hs i hm))⟩
theorem G.below (h : G [] w w') : Below w.heap.size w w' := ⟨h.os, h.tape, h.output, h.sz, fun i hi => h.old i hi (by simp)⟩
theorem Below.g (h : Below w.heap.size w w') : G [] w w' := ⟨h.os, h.tape, h.output, h.size, fun i hi _ => h.block i hi⟩
theorem G.drew (w : World) : G [] w w.drew := ⟨rfl, rfl, rfl, Nat.le_refl _, fun _ _ _ => rfl⟩
theorem Bk.g (h : Bk w b l T) (k : G S w w') (hn : b ∉ S) : Bk w' b l T := (k.old b h.lt hn).trans h
theorem Bk.g0 (h : Bk w b l T) (k : G [] w w') : Bk w' b l T := h.g k (by simp)
theorem Bk.g1 {b' : Nat} (h : Bk w b l T) (k : G [b'] w w') (hn : b ≠ b') : Bk w' b l T := h.g k (by simpa using hn)
theorem cell_of {i j : Nat} (h : w'.heap[i]? = w.heap[i]?) : w'.cell? ⟨i, j, none⟩ = w.cell? ⟨i, j, none⟩ := by simp [World.cell?, h]
theorem cell_lt {i j : Nat} (h : w.cell? ⟨i, j, none⟩ = some v) : i < w.heap.size := World.block_lt_of_cell? w _ h
theorem Tr.refl (L : List Nat) (w : World) : Tr L w L w := ⟨Nat.le_refl _, fun _ _ _ => rfl, fun _ h => .inl h⟩
theorem Tr.trans (h : Tr L w L' w') (k : Tr L' w' L'' w'') : Tr L w L'' w'' :=
  ⟨Nat.le_trans h.1 k.1, fun i hi hn => (k.2.1 i (Nat.lt_of_lt_of_le hi h.1) (fun hm => by rcases h.2.2 i hm with h1 | h1; exact hn h1; omega)).trans (h.2.1 i hi hn),
   fun i hi => by rcases k.2.2 i hi with h1 | h1; exact h.2.2 i h1; exact .inr (Nat.le_trans h.1 h1)⟩
theorem G.t (k : G S w w') (hs : ∀ i ∈ S, i ∈ L) : Tr L w L w' := ⟨k.sz, fun i hi hn => k.old i hi (fun hm => hn (hs i hm)), fun _ h => .inl h⟩
theorem G.t1 (k : G [b] w w') (h : b ∈ L) : Tr L w L w' := k.t (fun i hi => by simp at hi; subst hi; exact h)
theorem G.t0 (k : G [] w w') : Tr L w L w' := k.t (by simp)
/-- one block more that is the call's own -/
theorem G.tA (k : G [] w w') (hb : w.heap.size ≤ b) : Tr L w (b :: L) w' := ⟨k.sz, fun i hi _ => k.old i hi (by simp), fun i hi => by
  rcases List.mem_cons.1 hi with rfl | h; exact .inr hb; exact .inl h⟩
theorem G.tB {B : List Nat} (k : G S w w') (hs : ∀ i ∈ S, i ∈ L) (hb : ∀ b ∈ B, b ∈ L ∨ w.heap.size ≤ b) : Tr L w (B ++ L) w' := ⟨k.sz, fun i hi hn => k.old i hi (fun hm => hn (hs i hm)), fun i hi => by
  rcases List.mem_append.1 hi with h | h; exact hb i h; exact .inl h⟩
theorem Tr.sub (k : Tr L w L' w') (h : ∀ i ∈ L'', i ∈ L') : Tr L w L'' w' := ⟨k.1, k.2.1, fun i hi => k.2.2 i (h i hi)⟩
end mem

/-! ### kinds of elements -/
structure Kd (α : Type) where
  sz : Nat
  pos : 0 < sz
  R : List Nat → World → List Value → α → Prop
  len : ∀ {L w cs x}, R L w cs x → cs.length = sz
  one : ∀ {L w cs x}, R L w cs x → ∀ u ∈ cs, u.oneCell' = true
  mono : ∀ {L w L' w' cs x}, Tr L w L' w' → R L w cs x → R L' w' cs x

def RdS {α : Type} (K : Kd α) (L : List Nat) (w : World) (v : Value) (xs : List α) : Prop :=
  ∃ A cap, v = .slice A xs.length cap ∧ xs.length ≤ cap ∧ cap ≤ maxLen ∧ ((xs = [] ∧ (A = none → cap = 0)) ∨ ∃ b off, ∃ C : Nat → List Value, A = some ⟨b, off, none⟩ ∧ b ∉ L ∧
    ∀ i x, xs[i]? = some x → K.R L w (C i) x ∧ Cl w b (off + i * K.sz) (C i))

def ownB (v : Value) : List Nat := match v with | .slice (some a) _ _ => [a.block] | _ => []

theorem nilO {p : Prop} {x : Nat} (h : x ∈ ownB (.slice none 0 0)) : p := by simp [ownB] at h

def OwnS {α : Type} (K : Kd α) (T : TypeId) (L : List Nat) (w : World) (v : Value) (xs : List α) : Prop :=
  ∃ C : List (List Value), w.ownsRow 0 T K.sz v xs.length C.flatten ∧ C.length = xs.length ∧ ∀ (i : Nat) (c : List Value) (x : α), C[i]? = some c → xs[i]? = some x → K.R L w c x

section kinds
variable {α : Type} {K : Kd α} {w w' : World} {L L' : List Nat} {v : Value} {xs : List α} {T b o : Nat} {cs : List Value}
theorem Cl.tr (h : Cl w b o cs) (t : Tr L w L' w') (hb : b ∉ L) : Cl w' b o cs := fun j v hv => by
  have := h j v hv
  rw [cell_of (t.2.1 b (cell_lt this) hb)]; exact this
theorem Cl.g {S : List Nat} (h : Cl w b o cs) (t : G S w w') (hb : b ∉ S) : Cl w' b o cs := fun j v hv => by
  have := h j v hv
  rw [cell_of (t.old b (cell_lt this) hb)]; exact this
theorem RdS.mono (t : Tr L w L' w') (h : RdS K L w v xs) : RdS K L' w' v xs := by
  obtain ⟨A, cap, e, h1, h2, h3⟩ := h
  refine ⟨A, cap, e, h1, h2, ?_⟩
  rcases h3 with h3 | ⟨b, off, C, eA, hb, hC⟩
  · exact .inl h3
  by_cases hx : xs = []
  · exact .inl ⟨hx, fun h => by rw [h] at eA; cases eA⟩
  refine .inr ⟨b, off, C, eA, ?_, fun i x hi => ⟨K.mono t (hC i x hi).1, (hC i x hi).2.tr t hb⟩⟩
  intro hm
  rcases t.2.2 b hm with h4 | h4
  · exact hb h4
  · obtain ⟨x, hx0⟩ : ∃ x, xs[0]? = some x := by cases xs with | nil => exact absurd rfl hx | cons x _ => exact ⟨x, rfl⟩
    obtain ⟨hr, hc⟩ := hC 0 x hx0
    have hl := K.len hr
    have hs := K.pos
    have := cell_lt (hc 0 _ (List.getElem?_eq_getElem (by omega)))
    omega
theorem RdS.nil : RdS K L w (.slice none 0 0) [] := ⟨none, 0, rfl, Nat.le_refl _, by unfold maxLen; omega, .inl ⟨rfl, fun _ => rfl⟩⟩
theorem RdS.val (h : RdS K L w v xs) : ∃ A cap, v = .slice A xs.length cap ∧ xs.length ≤ cap ∧ cap ≤ maxLen := by
  obtain ⟨A, cap, e, h1, h2, _⟩ := h; exact ⟨A, cap, e, h1, h2⟩
theorem flatten_at {C : List (List Value)} {n : Nat} (hn : ∀ c ∈ C, c.length = n) {i j : Nat} {c : List Value} (hc : C[i]? = some c) (hj : j < n) : C.flatten[i * n + j]? = c[j]? := by
  induction C generalizing i with
  | nil => simp at hc
  | cons d C ih =>
    have hd : d.length = n := hn d (by simp)
    cases i with
    | zero =>
      simp only [List.getElem?_cons_zero, Option.some.injEq] at hc; subst hc
      rw [List.flatten_cons, List.getElem?_append_left (by omega)]; simp
    | succ i =>
      rw [List.flatten_cons, List.getElem?_append_right (by rw [hd, Nat.add_mul]; omega), hd]
      have : (i + 1) * n + j - n = i * n + j := by rw [Nat.add_mul]; omega
      rw [this]
      exact ih (fun c h => hn c (by simp [h])) (by simpa using hc)
theorem OwnS.lens {C : List (List Value)} (h1 : C.length = xs.length) (h2 : ∀ (i : Nat) (c : List Value) (x : α), C[i]? = some c → xs[i]? = some x → K.R L w c x) : ∀ c ∈ C, c.length = K.sz := by
  intro c hc
  obtain ⟨i, hi, rfl⟩ := List.getElem_of_mem hc
  have hx : i < xs.length := by omega
  exact K.len (h2 i _ xs[i] (List.getElem?_eq_getElem hi) (List.getElem?_eq_getElem hx))
/-- A row of the call's own, from now on read alone. -/
theorem OwnS.rd (h : OwnS K T L w v xs) (hL : ∀ i ∈ L', i ∈ L) (hv : ∀ b ∈ ownB v, b ∉ L') : RdS K L' w v xs := by
  obtain ⟨C, ho, h1, h2⟩ := h
  have hlen := OwnS.lens h1 h2
  rcases ho.2 with ⟨rfl, h0⟩ | ⟨g, cap, cur, rfl, _, hg, hn, hm, _, ht⟩
  · have : xs = [] := List.eq_nil_of_length_eq_zero h0
    subst this; exact RdS.nil
  · refine ⟨_, cap, rfl, hn, hm, .inr ⟨g, 0, fun i => C.getD i [], rfl, hv g (by simp [ownB]), fun i x hi => ?_⟩⟩
    have hi' : i < C.length := by rw [h1]; exact (List.getElem?_eq_some_iff.1 hi).1
    have hc : C[i]? = some (C.getD i []) := by simp [hi']
    refine ⟨K.mono ((Tr.refl L w).sub hL) (h2 i _ x hc hi), fun j u hu => ?_⟩
    have hj : j < K.sz := by
      have := (List.getElem?_eq_some_iff.1 hu).1
      rwa [hlen _ (List.mem_of_getElem? hc)] at this
    have e := flatten_at hlen hc hj
    rw [hu, ← ht] at e
    have hlt : i * K.sz + j < xs.length * K.sz := by
      have := (List.getElem?_eq_some_iff.1 hi).1
      calc i * K.sz + j < i * K.sz + K.sz := by omega
        _ = (i + 1) * K.sz := by rw [Nat.add_mul]; omega
        _ ≤ _ := Nat.mul_le_mul_right _ this
    rw [List.getElem?_take_of_lt hlt] at e
    simp only [World.cell?, hg]
    simpa using e
theorem OwnS.nil : OwnS K T L w (.slice none 0 0) [] := ⟨[], ⟨by simp, .inl ⟨rfl, rfl⟩⟩, rfl, fun i c x h => by simp at h⟩
theorem OwnS.lt (h : OwnS K T L w v xs) : ∀ b ∈ ownB v, b < w.heap.size := by
  obtain ⟨C, ho, h1, h2⟩ := h
  rcases ho.2 with ⟨rfl, h0⟩ | ⟨g, cap, cur, rfl, _, hg, hn, hm, _, ht⟩
  · simp [ownB]
  · intro b hb
    simp only [ownB, List.mem_singleton] at hb; subst hb
    exact (Array.getElem?_eq_some_iff.1 hg).1
theorem OwnS.val (h : OwnS K T L w v xs) : ∃ A cap, v = .slice A xs.length cap ∧ xs.length ≤ cap ∧ cap ≤ maxLen := by
  obtain ⟨C, ho, h1, h2⟩ := h
  rcases ho.2 with ⟨rfl, h0⟩ | ⟨g, cap, cur, rfl, _, hg, hn, hm, _, ht⟩
  · exact ⟨none, 0, by rw [h0], by omega, by unfold maxLen; omega⟩
  · exact ⟨_, cap, rfl, hn, hm⟩
theorem RdS.cells (h : RdS K L w v xs) : v.cells = [v].toArray := by obtain ⟨A, cap, rfl, _⟩ := h; rfl
theorem RdS.one (h : RdS K L w v xs) : v.oneCell' = true := by obtain ⟨A, cap, rfl, _⟩ := h; rfl
theorem OwnS.cells (h : OwnS K T L w v xs) : v.cells = [v].toArray := by obtain ⟨A, cap, rfl, _⟩ := h.val; rfl
theorem OwnS.one (h : OwnS K T L w v xs) : v.oneCell' = true := by obtain ⟨A, cap, rfl, _⟩ := h.val; rfl
theorem OwnS.tr (h : OwnS K T L w v xs) (t : Tr L w L' w') {S : List Nat} (g : G S w w') (hv : ∀ b ∈ ownB v, b ∉ S) : OwnS K T L' w' v xs := by
  have hlt := h.lt
  obtain ⟨C, ho, h1, h2⟩ := h
  refine ⟨C, ?_, h1, fun i c x a b => K.mono t (h2 i c x a b)⟩
  refine ⟨ho.1, ?_⟩
  rcases ho.2 with ⟨rfl, h0⟩ | ⟨gb, cap, cur, rfl, hb0, hg, hn, hm, hs, ht⟩
  · exact .inl ⟨rfl, h0⟩
  · refine .inr ⟨gb, cap, cur, rfl, hb0, ?_, hn, hm, hs, ht⟩
    rw [g.old gb (hlt gb (by simp [ownB])) (hv gb (by simp [ownB]))]; exact hg
end kinds

def KInt (k : IntKind) : Kd Int := ⟨1, by decide, fun _ _ cs x => cs = [.int k x], by rintro _ _ _ _ rfl; rfl, by rintro _ _ _ _ rfl u hu; simp at hu; subst hu; rfl, fun _ h => h⟩
def KBool : Kd Bool := ⟨1, by decide, fun _ _ cs x => cs = [.bool x], by rintro _ _ _ _ rfl; rfl, by rintro _ _ _ _ rfl u hu; simp at hu; subst hu; rfl, fun _ h => h⟩
def KStr : Kd (List UInt8) := ⟨1, by decide, fun _ _ cs x => cs = [.string ⟨x.toArray⟩], by rintro _ _ _ _ rfl; rfl, by rintro _ _ _ _ rfl u hu; simp at hu; subst hu; rfl, fun _ h => h⟩
def KSl {α : Type} (K : Kd α) : Kd (List α) := ⟨1, by decide, fun L w cs x => ∃ v, cs = [v] ∧ RdS K L w v x, by rintro _ _ _ _ ⟨v, rfl, _⟩; rfl, by rintro _ _ _ _ ⟨v, rfl, h⟩ u hu; simp at hu; subst hu; exact h.one, fun t ⟨v, e, h⟩ => ⟨v, e, h.mono t⟩⟩

/-! ### plain words of the pure functions -/
def ix {α : Type} (xs : List α) (i : Int) : Option α := if 0 ≤ i then xs[i.toNat]? else none
def lim : Nat := 549755813888
def app {α : Type} (xs ys : List α) : Option (List α) := if xs.length + ys.length ≤ lim then some (xs ++ ys) else none

abbrev w64 (x : Int) : Int := IntKind.i64.wrap x
def bAnd (k : IntKind) (x y : Int) : Int := k.wrap ((BitVec.ofInt k.bits x &&& BitVec.ofInt k.bits y).toNat : Int)
def bOr (k : IntKind) (x y : Int) : Int := k.wrap ((BitVec.ofInt k.bits x ||| BitVec.ofInt k.bits y).toNat : Int)
theorem ble {m n : Nat} (h : m ≤ n) : Nat.ble m n = true := Nat.ble_eq_true_of_le h
theorem cst {a : Act} {v : Value} : a.eval (.const v) = v := rfl

/-! ### operations -/
section oks
variable {P : Program} {a : Act} {w : World} {x y c : Operand} {v u : Value} {ty T T2 : TypeId} {k : IntKind} {m n : Int} {b1 b2 : Bool}
theorem okMv (h : a.eval x = v) : Ok P a w (.move x) ty v := fun d pos af g => by simp [execOp, h]
theorem okAs (h : a.eval x = v) : Ok P a w (.assign x) ty v := fun d pos af g => by simp [execOp, h]
theorem okPickT (hc : a.eval c = .bool true) (h : a.eval x = v) : Ok P a w (.pick c x y) ty v := fun d pos af g => by simp [execOp, hc, h, asBool]
theorem okPickF (hc : a.eval c = .bool false) (h : a.eval y = v) : Ok P a w (.pick c x y) ty v := fun d pos af g => by simp [execOp, hc, h, asBool]
theorem okAdd (hx : a.eval x = .int k m) (hy : a.eval y = .int k n) : Ok P a w (.binOp .add T x y T2) ty (.int k (k.wrap (m + n))) := fun d pos af g => by simp [execOp, eqGuard, binOp, hx, hy, Op.intArith]
theorem okSub (hx : a.eval x = .int k m) (hy : a.eval y = .int k n) : Ok P a w (.binOp .sub T x y T2) ty (.int k (k.wrap (m - n))) := fun d pos af g => by simp [execOp, eqGuard, binOp, hx, hy, Op.intArith]
theorem okMul (hx : a.eval x = .int k m) (hy : a.eval y = .int k n) : Ok P a w (.binOp .mul T x y T2) ty (.int k (k.wrap (m * n))) := fun d pos af g => by simp [execOp, eqGuard, binOp, hx, hy, Op.intArith]
theorem okEq (hx : a.eval x = .int k m) (hy : a.eval y = .int k n) : Ok P a w (.binOp .eql T x y T2) ty (.bool (m == n)) := fun d pos af g => by simp [execOp, eqGuard, binOp, hx, hy, Op.intCmp]
theorem okNe (hx : a.eval x = .int k m) (hy : a.eval y = .int k n) : Ok P a w (.binOp .neq T x y T2) ty (.bool (m != n)) := fun d pos af g => by simp [execOp, eqGuard, binOp, hx, hy, Op.intCmp]
theorem okLt (hx : a.eval x = .int k m) (hy : a.eval y = .int k n) : Ok P a w (.binOp .lss T x y T2) ty (.bool (decide (m < n))) := fun d pos af g => by simp [execOp, eqGuard, binOp, hx, hy, Op.intCmp]
theorem okLe (hx : a.eval x = .int k m) (hy : a.eval y = .int k n) : Ok P a w (.binOp .leq T x y T2) ty (.bool (decide (m ≤ n))) := fun d pos af g => by simp [execOp, eqGuard, binOp, hx, hy, Op.intCmp]
theorem okGt (hx : a.eval x = .int k m) (hy : a.eval y = .int k n) : Ok P a w (.binOp .gtr T x y T2) ty (.bool (decide (n < m))) := fun d pos af g => by simp [execOp, eqGuard, binOp, hx, hy, Op.intCmp]
theorem okGe (hx : a.eval x = .int k m) (hy : a.eval y = .int k n) : Ok P a w (.binOp .geq T x y T2) ty (.bool (decide (n ≤ m))) := fun d pos af g => by simp [execOp, eqGuard, binOp, hx, hy, Op.intCmp]
theorem okAnd (hx : a.eval x = .int k m) (hy : a.eval y = .int k n) : Ok P a w (.binOp .and T x y T2) ty (.int k (bAnd k m n)) := fun d pos af g => by simp [execOp, eqGuard, binOp, hx, hy, Op.intBits, bAnd]
theorem okOr (hx : a.eval x = .int k m) (hy : a.eval y = .int k n) : Ok P a w (.binOp .or T x y T2) ty (.int k (bOr k m n)) := fun d pos af g => by simp [execOp, eqGuard, binOp, hx, hy, Op.intBits, bOr]
theorem okNot (hx : a.eval x = .bool b1) : Ok P a w (.unOp .not T x) ty (.bool (!b1)) := fun d pos af g => by simp [execOp, hx, Op.unary]
theorem okNeg (hx : a.eval x = .int k m) : Ok P a w (.unOp .neg T x) ty (.int k (k.wrap (0 - m))) := fun d pos af g => by simp [execOp, hx, Op.unary, Op.intArith]
theorem equalIn_bool (d : Nat) (hT : P.underlying T = some .bool) : (Op.equalIn (d + 1) T (.bool b1) (.bool b2)).run P w = .ok (b1 == b2) w := by simp [Op.equalIn, run_underlying hT]
theorem equal_bool (hT : P.underlying T = some .bool) : (Op.equal T (.bool b1) (.bool b2)).run P w = .ok (b1 == b2) w := equalIn_bool 9999 hT
theorem okBEq (hT : P.underlying T = some .bool) (hx : a.eval x = .bool b1) (hy : a.eval y = .bool b2) : Ok P a w (.binOp .eql T x y T2) ty (.bool (b1 == b2)) := fun d pos af g => by
  simp [execOp, eqGuard, binOp, hx, hy, equal_bool hT]
theorem okBNe (hT : P.underlying T = some .bool) (hx : a.eval x = .bool b1) (hy : a.eval y = .bool b2) : Ok P a w (.binOp .neq T x y T2) ty (.bool (b1 != b2)) := fun d pos af g => by
  simp [execOp, eqGuard, binOp, hx, hy, equal_bool hT]; cases b1 <;> cases b2 <;> rfl
theorem okExt {vs : List Value} {i : Nat} (hx : a.eval x = .tuple vs.toArray) (hv : vs[i]? = some v) : Ok P a w (.extract x i) ty v := fun d pos af g => by
  simp [execOp, hx, Instr.extract, hv]
theorem okFn {f : FuncId} {cap : Array Operand} {cs : Array Value} (h : cap.map a.eval = cs) : Ok P a w (.makeFunc (.func f) #[] cap) ty (.func (.func f) #[] cs) := fun d pos af g => by
  simp [execOp, Instr.makeFunc, h]
theorem okCv {k' : IntKind} {D : TypeDesc} (hs : P.underlying T = some D) (hd : P.underlying T2 = some (.int k')) (hx : a.eval x = .int k m) : Ok P a w (.convert T T2 x) ty (.int k' (k'.wrap m)) := fun d pos af g => by
  simp [execOp, convert, run_underlying hs, run_underlying hd, hx, Conv.intToInt]

/-- a field's place -/
def FO (P : Program) (T i off : Nat) : Prop := ∃ fs f n, P.underlying T = some (.struct fs) ∧ fs[i]? = some f ∧ f.offset = off ∧ (∀ w, (sizeOf f.type).run P w = .ok n w) ∧ n ≠ 0
theorem add_eq (b o i : Nat) : (⟨b, o, none⟩ : Addr).add i = ⟨b, o + i, none⟩ := by
  unfold Addr.add; split
  · rename_i h; subst h; rfl
  · rfl
theorem okFA {i off b o o' : Nat} (h : FO P T i off) (hx : a.eval x = ptr b o) (ho : o + off = o') : Ok P a w (.fieldAddr T x i) ty (ptr b o') := fun d pos af g => by
  obtain ⟨fs, f, n, h1, h2, h3, h4, h5⟩ := h
  subst h3 ho
  simp only [execOp, Instr.fieldAt, Instr.sureAddr, fieldPlace, hx, ptr, Sem.run_bind, Result.andThen_ok, run_underlying h1, Sem.run_pure, h2, h4, if_neg h5, add_eq]
theorem okLen {A : Option Addr} {n cap : Nat} {E : TypeId} (hT : P.underlying T = some (.slice E)) (hx : a.eval x = .slice A n cap) : Ok P a w (.call { callee := .builtin .len, args := #[x], argTypes := #[T] }) ty (.int .i64 n) := fun d pos af g => by
  simp [execOp, resolve, invoke, builtin, hx, Builtin.len_, run_underlying hT, goInt]
theorem okLenS {s : ByteArray} (hT : P.underlying T = some .string) (hx : a.eval x = .string s) : Ok P a w (.call { callee := .builtin .len, args := #[x], argTypes := #[T] }) ty (.int .i64 s.size) := fun d pos af g => by
  simp [execOp, resolve, invoke, builtin, hx, Builtin.len_, run_underlying hT, goInt]
/-- a load -/
def NA (P : Program) (T : TypeId) : Prop := ∀ w, (isAgg T).run P w = .ok false w
theorem okLd {b o j o' : Nat} {cs : List Value} (h : NA P T) (hx : a.eval x = ptr b o') (hc : Cl w b o cs) (ho : o + j = o') (hv : cs[j]? = some v) : Ok P a w (.load T x) ty v := fun d pos af g => by
  subst ho
  simp [execOp, Instr.loadAt, Instr.sureAddr, hx, ptr, loadVar, h w, run_load, hc j v hv]
def AG (P : Program) (T n : Nat) : Prop := (∀ w, (isAgg T).run P w = .ok true w) ∧ ∀ w, (sizeOf T).run P w = .ok n w
/-- a whole struct, or a part of one -/
theorem okLdA {b o o' j n : Nat} {cs l : List Value} (h : AG P T n) (hx : a.eval x = ptr b o') (hc : Cl w b o cs) (ho : o + j = o') (hl : l.length = n) (hv : ∀ i v, l[i]? = some v → cs[j + i]? = some v) : Ok P a w (.load T x) ty (.agg l.toArray) := fun d pos af g => by
  subst ho
  have hld := run_loadCells_list (P := P) (w := w) ⟨b, o + j, none⟩ l (fun i v hi => by
    have := hc (j + i) v (hv i v hi)
    rw [add_eq, Nat.add_assoc]; exact this)
  rw [hl] at hld
  simp [execOp, Instr.loadAt, Instr.sureAddr, hx, ptr, loadVar, h.1 w, h.2 w, hld]
theorem whole {l : List Value} : ∀ (i : Nat) (v : Value), l[i]? = some v → l[0 + i]? = some v := fun i v h => by rw [Nat.zero_add]; exact h
theorem partOf {cs l : List Value} {j : Nat} (h : (cs.drop j).take l.length = l) : ∀ (i : Nat) (v : Value), l[i]? = some v → cs[j + i]? = some v := fun i v hi => by
  rw [← h] at hi
  have hlt := (List.getElem?_eq_some_iff.1 hi).1
  simp only [List.length_take] at hlt
  rw [List.getElem?_take_of_lt (by omega), List.getElem?_drop] at hi
  exact hi
/-- an element's place in a slice that is read -/
theorem okIdx {α : Type} {K : Kd α} {L : List Nat} {xs : List α} {e : α} {i : Int} {E : TypeId} (hT : P.underlying T = some (.slice E)) (hE : ∀ w, (sizeOf E).run P w = .ok K.sz w) (hx : a.eval x = v) (hy : a.eval y = .int k i) (hr : RdS K L w v xs) (he : ix xs i = some e) :
    ∃ b o cs, Ok P a w (.indexAddr T x y) ty (ptr b o) ∧ K.R L w cs e ∧ Cl w b o cs ∧ b ∉ L := by
  obtain ⟨A, cap, rfl, h1, h2, h3⟩ := hr
  unfold ix at he
  split at he
  · rename_i h0
    have hlt : i.toNat < xs.length := (List.getElem?_eq_some_iff.1 he).1
    rcases h3 with ⟨rfl, _⟩ | ⟨b, off, C, rfl, hb, hC⟩
    · simp at hlt
    · obtain ⟨hR, hcl⟩ := hC _ _ he
      refine ⟨b, off + i.toNat * K.sz, C i.toNat, fun d pos af g => ?_, hR, hcl, hb⟩
      have hi : 0 ≤ i ∧ i < (xs.length : Int) := ⟨h0, by omega⟩
      simp only [execOp, Instr.indexAt, hx, hy, asIntOf, Sem.run_bind, Sem.run_pure, Result.andThen_ok, run_underlying hT, if_pos hi, hE, add_eq]
  · cases he
end oks

/-- how a walk stands -/
structure Cx (S : List Nat) (w0 : World) (L : List Nat) (w : World) : Prop where
  g : G S w0 w
  lt : ∀ b ∈ L, b < w.heap.size
section cx
variable {S L B : List Nat} {w0 w w' : World} {b T : Nat} {l : List Value}
theorem Cx.al (c : Cx S w0 L w) (g : G [] w w') (m : Bk w' b l T) : Cx S w0 (b :: L) w' := ⟨c.g.tr0 g, fun i hi => by
  rcases List.mem_cons.1 hi with rfl | h; exact m.lt; exact Nat.lt_of_lt_of_le (c.lt i h) g.sz⟩
theorem Cx.st (c : Cx S w0 L w) (g : G [b] w w') (hb : w0.heap.size ≤ b) : Cx S w0 L w' := ⟨c.g.tr1 g hb, fun i hi => Nat.lt_of_lt_of_le (c.lt i hi) g.sz⟩
theorem Cx.sS (c : Cx S w0 L w) (g : G [b] w w') (hb : b ∈ S) : Cx S w0 L w' := ⟨c.g.tr1s g hb, fun i hi => Nat.lt_of_lt_of_le (c.lt i hi) g.sz⟩
theorem Cx.ca (c : Cx S w0 L w) (g : G [] w w') : Cx S w0 L w' := ⟨c.g.tr0 g, fun i hi => Nat.lt_of_lt_of_le (c.lt i hi) g.sz⟩
theorem Cx.nw (c : Cx S w0 L w) (hb : b = w.heap.size) : w0.heap.size ≤ b := hb ▸ c.g.sz
theorem Cx.sub {L' : List Nat} (c : Cx S w0 L w) (h : ∀ i ∈ L', i ∈ L) : Cx S w0 L' w := ⟨c.g, fun i hi => c.lt i (h i hi)⟩
theorem Bk.ne (m : Bk w b l T) {b' : Nat} (h : b' = w.heap.size) : b ≠ b' := by have := m.lt; omega
end cx
end Go.Proofs.YtbfndihcbogjfaaDoor.Gx
