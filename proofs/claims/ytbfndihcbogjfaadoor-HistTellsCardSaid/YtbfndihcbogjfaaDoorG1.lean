/-
  Plain theorems, over any program: a frame and a world as variables with facts on them; one theorem an operation. Conditions: none.
-/
import Derived.Calls
import Derived.Tactics
import Derived.Below
import Derived.StillTail
import Derived.Laws.AppendOwn
import Derived.Laws.Slices
import Derived.Laws.Cells
import Derived.Laws.NewBlocks
import Derived.OwnWalk
import Derived.KernelRfl
namespace Go.Proofs.YtbfndihcbogjfaaDoor.Gx
open Go

abbrev ptr (b o : Nat) : Value := .pointer (some ⟨b, o, none⟩)

/-! ### frames -/
structure Z (N : Nat) (a : Act) : Prop where
  sz : a.tmps.size = N
  df : a.defers = []

structure Pt (N : Nat) (a : Act) (d : Nat) (v : Value) (a' : Act) : Prop where
  z : Z N a'
  eq : a' = a.put (some d) v
  lt : d < N
  szo : a.tmps.size = N

section frames
variable {N d s : Nat} {a a' : Act} {v u : Value}
theorem Pt.mk' (z : Z N a) (hd : Nat.ble (d + 1) N = true) : Pt N a d v (a.put (some d) v) := by
  refine ⟨⟨?_, ?_⟩, rfl, Nat.le_of_ble_eq_true hd, z.sz⟩
  · simp [Act.put, z.sz]
  · simp [Act.put, z.df]
theorem Pt.n (p : Pt N a d v a') : a'.eval (.tmp d) = v := by
  obtain ⟨_, rfl, hlt, hs⟩ := p
  have : d < a.tmps.size := by omega
  simp [Act.eval, Act.put, this]
theorem Pt.o (p : Pt N a d v a') (h : a.eval (.tmp s) = u) (hn : Nat.beq s d = false) : a'.eval (.tmp s) = u := by
  obtain ⟨_, rfl, hlt, hs⟩ := p
  have : d ≠ s := by intro e; subst e; simp at hn
  rw [← h]
  simp [Act.eval, Act.put, Array.getElem?_setIfInBounds, this]
/-- From a to a' the slots of D alone may have turned. -/
structure Pg (N : Nat) (D : List Nat) (a a' : Act) : Prop where
  z : Z N a'
  od : ∀ s, D.contains s = false → a'.eval (.tmp s) = a.eval (.tmp s)
theorem Pg.refl {D : List Nat} (z : Z N a) : Pg N D a a := ⟨z, fun _ _ => rfl⟩
theorem Pg.st {D : List Nat} {a'' : Act} (h : Pg N D a a') (p : Pt N a' d v a'') (hd : D.contains d = true) : Pg N D a a'' := ⟨p.z, fun s hs => by
  rw [← h.od s hs]
  refine p.o rfl ?_
  cases e : Nat.beq s d with
  | false => rfl
  | true => have := Nat.eq_of_beq_eq_true e; subst this; rw [hd] at hs; cases hs⟩
theorem Pg.o {D : List Nat} (h : Pg N D a a') (hs : a.eval (.tmp s) = u) (hn : D.contains s = false) : a'.eval (.tmp s) = u := (h.od s hn).trans hs
theorem Pg.tr {D D' : List Nat} {a'' : Act} (h : Pg N D a a') (k : Pg N D' a' a'') (hs : D'.all (fun s => D.contains s) = true) : Pg N D a a'' := ⟨k.z, fun s hn => by
  rw [k.od s ?_, h.od s hn]
  cases e : D'.contains s with
  | false => rfl
  | true =>
    have := List.all_eq_true.1 hs s (by simpa using e)
    rw [hn] at this; cases this⟩
theorem yd {ops : Array Oper} {j dj : Nat} {b : Bool} (z : Z N a) (h : (ops[j]?).bind (·.dst) = some dj) (hd : Nat.ble (dj + 1) N = true) (e : a.eval (.tmp dj) = .bool b) : yielded ops a.tmps j = some b := by
  unfold yielded
  rw [h]
  have hlt : dj < a.tmps.size := by rw [z.sz]; exact Nat.le_of_ble_eq_true hd
  simp only [Act.eval, Array.getD_eq_getD_getElem?] at e
  simp only [Option.bind_some]
  rw [Array.getElem?_eq_getElem hlt] at e ⊢
  simp only [Option.getD_some] at e
  rw [e]
theorem ydU {ops : Array Oper} {j dj : Nat} (z : Z N a) (h : (ops[j]?).bind (·.dst) = some dj) (hd : Nat.ble (dj + 1) N = true) (e : a.eval (.tmp dj) = undef) : yielded ops a.tmps j = none := by
  unfold yielded
  rw [h]
  have hlt : dj < a.tmps.size := by rw [z.sz]; exact Nat.le_of_ble_eq_true hd
  simp only [Act.eval, Array.getD_eq_getD_getElem?] at e
  simp only [Option.bind_some]
  rw [Array.getElem?_eq_getElem hlt] at e ⊢
  simp only [Option.getD_some] at e
  rw [e]; rfl
end frames

/-! ### operations that leave the world alone -/
def Ok (P : Program) (a : Act) (w : World) (op : Op) (ty : TypeId) (v : Value) : Prop :=
  ∀ d pos af g, (execOp a.eval ⟨d, op, ty, pos, af, g⟩).run P w = .ok (.value v) w

section steps
variable {P : Program} {ops : Array Oper} {Q : Exit → Act → World → Prop} {rest : List Oper} {a : Act} {w : World} {N d : Nat} {op : Op} {ty : TypeId} {pos : String} {af : Array Edge} {v : Value} {j : Nat} {b : Bool}
theorem s1 (z : Z N a) (h : Ok P a w op ty v) (hd : Nat.ble (d + 1) N = true) (k : ∀ a', Pt N a d v a' → a'.eval (.tmp d) = v → wpList P ops Q rest a' w) : wpList P ops Q (⟨some d, op, ty, pos, af, none⟩ :: rest) a w := by
  refine wpList_plain rfl fun K hK => ?_
  unfold Oper.wp
  rw [h]
  exact hK _ _ (k _ (Pt.mk' z hd) (Pt.mk' z hd).n)
theorem s1g (z : Z N a) (h : Ok P a w op ty v) (hd : Nat.ble (d + 1) N = true) (hy : yielded ops a.tmps j = some b) (k : ∀ a', Pt N a d v a' → a'.eval (.tmp d) = v → wpList P ops Q rest a' w) : wpList P ops Q (⟨some d, op, ty, pos, af, some (j, b)⟩ :: rest) a w := by
  refine wpList_step fun K hK => ?_
  rw [if_pos (by simp [Region.wanted, hy])]
  unfold Oper.wp
  rw [h]
  exact hK _ _ (k _ (Pt.mk' z hd) (Pt.mk' z hd).n)
theorem s1k {o : Option Bool} (z : Z N a) (hd : Nat.ble (d + 1) N = true) (hy : yielded ops a.tmps j = o) (hne : (o == some b) = false) (k : ∀ a', Pt N a d undef a' → a'.eval (.tmp d) = undef → wpList P ops Q rest a' w) : wpList P ops Q (⟨some d, op, ty, pos, af, some (j, b)⟩ :: rest) a w := by
  refine wpList_step fun K hK => ?_
  rw [if_neg (by simp [Region.wanted, hy]; simpa using hne)]
  exact hK _ _ (k _ (Pt.mk' z hd) (Pt.mk' z hd).n)
-- the same where the order is drawn and nothing is written
variable {S : Act → Prop}
theorem t1 (z : Z N a) (h : Ok P a w op ty v) (hd : Nat.ble (d + 1) N = true) (k : ∀ a', Pt N a d v a' → a'.eval (.tmp d) = v → wpStill P ops w S rest a') : wpStill P ops w S (⟨some d, op, ty, pos, af, none⟩ :: rest) a := by
  refine wpStill_step fun K hK => ?_
  rw [if_pos (by simp [Region.wanted])]
  unfold Oper.still
  rw [h]
  exact ⟨rfl, hK _ (k _ (Pt.mk' z hd) (Pt.mk' z hd).n)⟩
theorem t1g (z : Z N a) (h : Ok P a w op ty v) (hd : Nat.ble (d + 1) N = true) (hy : yielded ops a.tmps j = some b) (k : ∀ a', Pt N a d v a' → a'.eval (.tmp d) = v → wpStill P ops w S rest a') : wpStill P ops w S (⟨some d, op, ty, pos, af, some (j, b)⟩ :: rest) a := by
  refine wpStill_step fun K hK => ?_
  rw [if_pos (by simp [Region.wanted, hy])]
  unfold Oper.still
  rw [h]
  exact ⟨rfl, hK _ (k _ (Pt.mk' z hd) (Pt.mk' z hd).n)⟩
theorem t1k {o : Option Bool} (z : Z N a) (hd : Nat.ble (d + 1) N = true) (hy : yielded ops a.tmps j = o) (hne : (o == some b) = false) (k : ∀ a', Pt N a d undef a' → a'.eval (.tmp d) = undef → wpStill P ops w S rest a') : wpStill P ops w S (⟨some d, op, ty, pos, af, some (j, b)⟩ :: rest) a := by
  refine wpStill_step fun K hK => ?_
  rw [if_neg (by simp [Region.wanted, hy]; simpa using hne)]
  exact hK _ (k _ (Pt.mk' z hd) (Pt.mk' z hd).n)
end steps

/-! ### a piece of a region, and the rest -/
section cuts
variable {P : Program} {ops : Array Oper} {Q : Exit → Act → World → Prop} {l : List Oper} {a : Act} {w : World}
theorem upon_mono {o : Oper} {K K' : Act → World → Prop} {Q' : Exit → Act → World → Prop} (hK : ∀ a w, K a w → K' a w) (hQ : ∀ e a w, Q e a w → e = .normal) {r : Result Next} (h : o.upon P a K Q r) : o.upon P a K' Q' r := by
  cases r with
  | ok n w =>
    cases n <;> simp only [Oper.upon] at h ⊢ <;> first | exact hK _ _ h | exact h | skip
    · refine h.mono fun e w h => ?_
      cases e with
      | returned v => exact hK _ _ h
      | panicked c => have := hQ _ _ _ h; cases this
      | outgrown => obtain ⟨a, w, h⟩ := h; have := hQ _ _ _ h; cases this
    · exact h.mono fun v w h => hK _ _ h
  | halt x w =>
    cases x <;> simp only [Oper.upon] at h ⊢
    have := hQ _ _ _ h; cases this
theorem wpList_mono {K' : Exit → Act → World → Prop} (hQ : ∀ e a w, Q e a w → e = .normal) : ∀ (l1 l2 : List Oper) (a : Act) (w : World), wpList P ops Q l1 a w → (∀ a w, Q .normal a w → wpList P ops K' l2 a w) → wpList P ops K' (l1 ++ l2) a w
  | [], l2, a, w, h, k => k _ _ h
  | o :: l1, l2, a, w, h, k => by
    simp only [List.cons_append]
    unfold wpList at h ⊢
    split
    · rename_i hw
      rw [if_pos hw] at h
      rcases h with h | ⟨_, a', w', h⟩
      · exact .inl (upon_mono (fun a w h => wpList_mono hQ l1 l2 a w h k) hQ h)
      · have := hQ _ _ _ h; cases this
    · rename_i hw
      rw [if_neg hw] at h
      exact wpList_mono hQ l1 l2 _ _ h k
/-- The first m operations come to Φ; from there the rest goes on. -/
theorem cutL (m : Nat) (Φ : Act → World → Prop) (h1 : wpList P ops (fun e a' w' => e = .normal ∧ Φ a' w') (l.take m) a w) (h2 : ∀ a' w', Φ a' w' → wpList P ops Q (l.drop m) a' w') : wpList P ops Q l a w := by
  have := wpList_mono (K' := Q) (fun e a w h => h.1) (l.take m) (l.drop m) a w h1 (fun a w h => h2 a w h.2)
  rwa [List.take_append_drop] at this
theorem cutP (m : Nat) (Φ : Act → Prop) (h1 : wpList P ops (fun e a' w' => e = .normal ∧ w' = w ∧ Φ a') (l.take m) a w) (h2 : ∀ a', Φ a' → wpList P ops Q (l.drop m) a' w) : wpList P ops Q l a w :=
  cutL m (fun a' w' => w' = w ∧ Φ a') h1 (fun a' w' ⟨e, h⟩ => by subst e; exact h2 a' h)
theorem wpStill_app {S S' : Act → Prop} : ∀ (l1 l2 : List Oper) (a : Act), wpStill P ops w S l1 a → (∀ a, S a → wpStill P ops w S' l2 a) → wpStill P ops w S' (l1 ++ l2) a
  | [], l2, a, h, k => k _ h
  | o :: l1, l2, a, h, k => by
    simp only [List.cons_append]
    unfold wpStill at h ⊢
    split
    · rename_i hw
      rw [if_pos hw] at h
      exact Oper.still_mono (fun a h => wpStill_app l1 l2 a h k) h
    · rename_i hw
      rw [if_neg hw] at h
      exact wpStill_app l1 l2 _ h k
theorem cutT {S : Act → Prop} (m : Nat) (Φ : Act → Prop) (h1 : wpStill P ops w Φ (l.take m) a) (h2 : ∀ a', Φ a' → wpStill P ops w S (l.drop m) a') : wpStill P ops w S l a := by
  have := wpStill_app (S' := S) (l.take m) (l.drop m) a h1 h2
  rwa [List.take_append_drop] at this
end cuts

theorem bf (β : Bool) : β = false ∨ β = true := by cases β <;> simp
theorem bv {a : Act} {x : Operand} {β b : Bool} (h : a.eval x = .bool β) (hb : β = b) : a.eval x = .bool b := hb ▸ h
theorem bvS {a : Act} {x : Operand} {β b : Bool} (h : a.eval x = .bool b) (hb : β = b) : a.eval x = .bool β := hb ▸ h
theorem ifP {α : Type} {β : Bool} {A B : α} (h : β = true) : (if β then A else B) = A := by simp [h]
theorem ifN {α : Type} {β : Bool} {A B : α} (h : β = false) : (if β then A else B) = B := by simp [h]
theorem andT {a : Act} {x : Operand} {β γ : Bool} (hb : β = true) (h : a.eval x = .bool γ) : a.eval x = .bool (β && γ) := by subst hb; exact h
theorem andF {a : Act} {x : Operand} {β γ : Bool} (hb : β = false) (h : a.eval x = .bool false) : a.eval x = .bool (β && γ) := by subst hb; exact h
theorem orF {a : Act} {x : Operand} {β γ : Bool} (hb : β = false) (h : a.eval x = .bool γ) : a.eval x = .bool (β || γ) := by subst hb; exact h
theorem orT {a : Act} {x : Operand} {β γ : Bool} (hb : β = true) (h : a.eval x = .bool true) : a.eval x = .bool (β || γ) := by subst hb; exact h

/-! ### code -/
section code
variable {P : Program} {Q : Exit → Act → World → Prop} {a : Act} {w : World}
theorem thenN {K : Act → World → Prop} (h : K a w) : Exit.then K Q .normal a w := h
theorem thenE {K : Act → World → Prop} {id : Nat} (h : Q (.exit id) a w) : Exit.then K Q (.exit id) a w := h
theorem thenR {K : Act → World → Prop} (h : Q .ret a w) : Exit.then K Q .ret a w := h
theorem blkN {id : Nat} (h : Q .normal a w) : Exit.inBlock id Q .normal a w := h
theorem blkR {id : Nat} (h : Q .ret a w) : Exit.inBlock id Q .ret a w := h
theorem blkE {id : Nat} (h : Q .normal a w) : Exit.inBlock id Q (.exit id) a w := by simp only [Exit.inBlock, if_true]; exact h
theorem blkM {id id' : Nat} (hn : Nat.beq id' id = false) (h : Q (.exit id') a w) : Exit.inBlock id Q (.exit id') a w := by
  have : ¬ id' = id := by intro e; subst e; simp at hn
  simp only [Exit.inBlock, if_neg this]; exact h
theorem reg {id : Nat} {l : List Oper} (h : wpList P l.toArray Q l a w) : (Code.region id l.toArray false).wp P Q a w := wp_region_lit h
theorem rN {ops : Array Oper} (h : Q .normal a w) : wpList P ops Q [] a w := h
theorem tN {ops : Array Oper} {S : Act → Prop} (h : S a) : wpStill P ops w S [] a := h
/-- A region that draws its order and writes nothing. -/
theorem regS {id : Nat} {l : List Oper} (hm : P.follows .mixedOrders = true) (hB : Region.lexB .any l.toArray = true)
    (h : wpStill P l.toArray w.drew (fun a' => Q .normal a' w.drew) l a) : (Code.region id l.toArray true).wp P Q a w := wp_region_still_lit hm hB h
/-- A region that draws its order: n operations that write nothing, then the others in their order. -/
theorem regT {id : Nat} {l : List Oper} (n : Nat) (hm : P.follows .mixedOrders = true) (hB : Region.lexTailB .any l.toArray n = true)
    (h : wpStill P l.toArray w.drew (fun a' => wpList P l.toArray Q (l.drop n) a' w.drew) (l.take n) a) : (Code.region id l.toArray true).wp P Q a w := wp_region_still_tail n hm hB h
theorem cnd {c : Operand} {x y : Code} {t : Bool} (hc : a.eval c = .bool t) (ht : t = true → x.wp P Q a w) (hf : t = false → y.wp P Q a w) : (Code.cond c x y).wp P Q a w := wp_cond_split hc ht hf
/-- A loop, by the number of its rounds. -/
theorem loopF {c : Code} {I : Nat → Act → World → Prop} {k : Nat} (h0 : I k a w)
    (round : ∀ k a w, I k a w → c.wp P (Exit.then (fun a' w' => ∃ k', k' < k ∧ I k' a' w') Q) a w) : (Code.loop c).wp P Q a w := by
  intro b kk cs
  have key : ∀ n a w, I n a w → ∃ e a' w', Q e a' w' ∧ Arrives P (lone (b.at a (.code c :: .inLoop c :: kk)) cs w) b kk cs e a' w' := by
    intro n
    induction n using Nat.strongRecOn with
    | _ n ih =>
      intro a w hI
      obtain ⟨e, a₁, w₁, hq, harr⟩ := round n a w hI b (.inLoop c :: kk) cs
      cases e with
      | normal =>
        obtain ⟨k', hlt, hI₁⟩ := hq
        obtain ⟨e₂, a₂, w₂, hq₂, harr₂⟩ := ih k' hlt a₁ w₁ hI₁
        exact ⟨e₂, a₂, w₂, hq₂, .of_steps (Steps.trans harr (.one step_inLoop)) harr₂⟩
      | exit id => exact ⟨_, a₁, w₁, hq, .pass (x := .inLoop c) rfl (fun _ _ => .inl (by simp)) harr⟩
      | goto l => exact ⟨_, a₁, w₁, hq, .pass (x := .inLoop c) rfl (fun _ _ => .inl (by simp)) harr⟩
      | ret => exact ⟨_, a₁, w₁, hq, .pass (x := .inLoop c) rfl (fun _ _ => .inl (by simp)) harr⟩
      | panic ch => exact ⟨_, a₁, w₁, hq, .pass (x := .inLoop c) rfl (fun _ _ => .inl (by simp)) harr⟩
      | outgrown => exact ⟨_, a₁, w₁, hq, .pass (x := .inLoop c) rfl (fun _ _ => .inl (by simp)) harr⟩
  obtain ⟨e, a', w', hq, harr⟩ := key _ a w h0
  exact ⟨e, a', w', hq, .of_steps (.one step_loop) harr⟩
/-- Where the exits to id go elsewhere. -/
def JQ (id : Nat) (Φ : Act → World → Prop) (Q : Exit → Act → World → Prop) : Exit → Act → World → Prop
  | .exit i, a, w => if i = id then Φ a w else Q (.exit i) a w
  | e, a, w => Q e a w
theorem jqE {id : Nat} {Φ : Act → World → Prop} (h : Φ a w) : JQ id Φ Q (.exit id) a w := by simp only [JQ, if_true]; exact h
theorem jqM {id id' : Nat} {Φ : Act → World → Prop} (hn : Nat.beq id' id = false) (h : Q (.exit id') a w) : JQ id Φ Q (.exit id') a w := by
  have : ¬ id' = id := by intro e; subst e; simp at hn
  simp only [JQ, if_neg this]; exact h
theorem jqR {id : Nat} {Φ : Act → World → Prop} (h : Q .ret a w) : JQ id Φ Q .ret a w := h
theorem loopX {c : Code} {I : Nat → Act → World → Prop} {k : Nat} (id : Nat) (Φ : Act → World → Prop) (h0 : I k a w)
    (round : ∀ k a w, I k a w → c.wp P (Exit.then (fun a' w' => ∃ k', k' < k ∧ I k' a' w') (JQ id Φ Q)) a w) (out : ∀ a' w', Φ a' w' → Q (.exit id) a' w') : (Code.loop c).wp P Q a w := by
  refine Code.wp_mono (fun e a w h => ?_) (loopF (Q := JQ id Φ Q) h0 round)
  cases e with
  | exit i =>
    by_cases hi : i = id
    · subst hi; simp only [JQ, if_true] at h; exact out _ _ h
    · simpa only [JQ, if_neg hi] using h
  | _ => exact h
end code

/-- what a loop comes to where it may return -/
inductive Lp (ρ σ : Type) where
  | ret (r : ρ)
  | go (s : σ)
def Lp.k {ρ σ : Type} (o : Lp ρ σ) (f : σ → Option ρ) : Option ρ := match o with | .ret r => some r | .go s => f s

end Go.Proofs.YtbfndihcbogjfaaDoor.Gx
