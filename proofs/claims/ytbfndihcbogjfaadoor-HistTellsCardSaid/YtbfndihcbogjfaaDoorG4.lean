/-
  Plain theorems, over any program: more operations. Conditions: none.
-/
import Derived.Test.YtbfndihcbogjfaaDoorG3
import Derived.OrdersHeld
namespace Go.Proofs.YtbfndihcbogjfaaDoor.Gx
open Go Go.RowKit
section
variable {P : Program} {a : Act} {w : World} {x y c : Operand} {v u : Value} {ty T T2 : TypeId} {k : IntKind} {m n : Int} {b1 b2 : Bool} {α : Type} {K : Kd α} {L : List Nat} {xs : List α}
theorem okLenR {E : TypeId} {w0 : World} (hT : P.underlying T = some (.slice E)) (hx : a.eval x = v) (h : RdS K L w0 v xs) : Ok P a w (.call { callee := .builtin .len, args := #[x], argTypes := #[T] }) ty (.int .i64 (xs.length : Int)) := by
  obtain ⟨A, cap, rfl, _⟩ := h
  exact okLen hT hx
theorem okIA {E b o o' : Nat} {i : Int} {len : Nat} (hT : P.underlying T = some (.array len E)) (hE : ∀ w, (sizeOf E).run P w = .ok 1 w) (hx : a.eval x = ptr b o) (hy : a.eval y = .int k i) (h : 0 ≤ i ∧ i < (len : Int)) (ho : o + i.toNat = o' := by rfl) : Ok P a w (.indexAddr T x y) ty (ptr b o') := fun d pos af g => by
  subst ho
  simp only [execOp, Instr.indexAt, hx, hy, ptr, asIntOf, Instr.sureAddr, Sem.run_bind, Sem.run_pure, Result.andThen_ok, run_underlying hT, if_pos h, hE, Nat.mul_one, add_eq]
theorem okIxA {E : Nat} {i : Int} {len : Nat} {cs : List Value} (hT : P.underlying T = some (.array len E)) (hA : NA P E) (hE : ∀ w, (sizeOf E).run P w = .ok 1 w) (hx : a.eval x = .agg cs.toArray) (hy : a.eval y = .int k i) (hv : cs[i.toNat]? = some v) (h : 0 ≤ i ∧ i < (len : Int)) : Ok P a w (.index T x y) ty v := fun d pos af g => by
  simp only [execOp, Instr.index, hx, hy, asIntOf, Sem.run_bind, Sem.run_pure, Result.andThen_ok, run_underlying hT, if_pos h, hE, Nat.mul_one, part, hA w, Bool.false_eq_true, if_false, List.getElem?_toArray, hv]
theorem okBd {parts : Array (Nat × Operand)} {vs : Array (Nat × Value)} (h : parts.map (fun p => (p.1, a.eval p.2)) = vs) (hb : (Instr.build T vs).run P w = .ok v w) : Ok P a w (.build T parts) ty v := fun d pos af g => by
  subst h
  simp only [execOp, Sem.run_bind]
  have e : (parts.map fun x => match x with | (i, x) => (i, a.eval x)) = parts.map (fun p => (p.1, a.eval p.2)) := rfl
  rw [e, hb]; rfl
theorem pb0 : (#[] : Array (Nat × Operand)).map (fun p => (p.1, a.eval p.2)) = #[] := by simp
theorem pb1 {i1 : Nat} {x1 : Operand} {v1 : Value} (h1 : a.eval x1 = v1) : (#[(i1, x1)] : Array (Nat × Operand)).map (fun p => (p.1, a.eval p.2)) = #[(i1, v1)] := by simp [h1]
theorem pb2 {i1 i2 : Nat} {x1 x2 : Operand} {v1 v2 : Value} (h1 : a.eval x1 = v1) (h2 : a.eval x2 = v2) : (#[(i1, x1), (i2, x2)] : Array (Nat × Operand)).map (fun p => (p.1, a.eval p.2)) = #[(i1, v1), (i2, v2)] := by simp [h1, h2]
theorem pb3 {i1 i2 i3 : Nat} {x1 x2 x3 : Operand} {v1 v2 v3 : Value} (h1 : a.eval x1 = v1) (h2 : a.eval x2 = v2) (h3 : a.eval x3 = v3) : (#[(i1, x1), (i2, x2), (i3, x3)] : Array (Nat × Operand)).map (fun p => (p.1, a.eval p.2)) = #[(i1, v1), (i2, v2), (i3, v3)] := by simp [h1, h2, h3]
theorem pb4 {i1 i2 i3 i4 : Nat} {x1 x2 x3 x4 : Operand} {v1 v2 v3 v4 : Value} (h1 : a.eval x1 = v1) (h2 : a.eval x2 = v2) (h3 : a.eval x3 = v3) (h4 : a.eval x4 = v4) : (#[(i1, x1), (i2, x2), (i3, x3), (i4, x4)] : Array (Nat × Operand)).map (fun p => (p.1, a.eval p.2)) = #[(i1, v1), (i2, v2), (i3, v3), (i4, v4)] := by simp [h1, h2, h3, h4]
theorem pb5 {i1 i2 i3 i4 i5 : Nat} {x1 x2 x3 x4 x5 : Operand} {v1 v2 v3 v4 v5 : Value} (h1 : a.eval x1 = v1) (h2 : a.eval x2 = v2) (h3 : a.eval x3 = v3) (h4 : a.eval x4 = v4) (h5 : a.eval x5 = v5) : (#[(i1, x1), (i2, x2), (i3, x3), (i4, x4), (i5, x5)] : Array (Nat × Operand)).map (fun p => (p.1, a.eval p.2)) = #[(i1, v1), (i2, v2), (i3, v3), (i4, v4), (i5, v5)] := by simp [h1, h2, h3, h4, h5]
theorem one1 {v : Value} (h : v.oneCell' = true := by rfl) : ∀ u ∈ [v], u.oneCell' = true := fun u hu => by simp at hu; subst hu; exact h
theorem oneS {v : Value} (h : v.oneCell' = true) : ∀ u ∈ [v], u.oneCell' = true := one1 h
/-- an element of a slice that is read: its place, its words, and that its address can be asked for -/
theorem RdS.at_ {e : α} {i : Int} (hr : RdS K L w v xs) (he : ix xs i = some e) : ∃ b o cs, K.R L w cs e ∧ Cl w b o cs ∧ b ∉ L ∧
    ∀ {P : Program} {a : Act} {x y : Operand} {T ty E : TypeId} {k : IntKind}, P.underlying T = some (.slice E) → (∀ w, (sizeOf E).run P w = .ok K.sz w) → a.eval x = v → a.eval y = .int k i → ∀ w', Ok P a w' (.indexAddr T x y) ty (ptr b o) := by
  obtain ⟨A, cap, rfl, h1, h2, h3⟩ := hr
  unfold ix at he
  split at he
  · rename_i h0
    have hlt : i.toNat < xs.length := (List.getElem?_eq_some_iff.1 he).1
    rcases h3 with ⟨rfl, _⟩ | ⟨b, off, C, rfl, hb, hC⟩
    · simp at hlt
    · obtain ⟨hR, hcl⟩ := hC _ _ he
      refine ⟨b, off + i.toNat * K.sz, C i.toNat, hR, hcl, hb, fun hT hE hx hy w' d pos af g => ?_⟩
      have hi : 0 ≤ i ∧ i < (xs.length : Int) := ⟨h0, by omega⟩
      simp only [execOp, Instr.indexAt, hx, hy, asIntOf, Sem.run_bind, Sem.run_pure, Result.andThen_ok, run_underlying hT, if_pos hi, hE, add_eq]
  · cases he
theorem Cl.g0 {b o : Nat} {cs : List Value} {w w' : World} (h : Cl w b o cs) (t : G [] w w') : Cl w' b o cs := h.g t (by simp)
theorem Cl.g1 {b b' o : Nat} {cs : List Value} {w w' : World} (h : Cl w b o cs) (t : G [b'] w w') (hn : b ≠ b') : Cl w' b o cs := h.g t (by simpa using hn)
theorem clp {b o : Nat} {l cs : List Value} {j : Nat} (m : Cl w b o l) (h : (l.drop j).take cs.length = cs) : Cl w b (o + j) cs := fun i u hi => by
  have := m (j + i) u (partOf h i u hi)
  rwa [← Nat.add_assoc] at this
theorem clD {b o : Nat} {l : List Value} {u : Value} (h : l[o]? = some u) (m : Cl w b 0 l) : Cl w b o [u] := fun i x hi => by
  cases i with
  | zero =>
    simp at hi; subst hi
    have := m o u h
    rwa [Nat.zero_add] at this
  | succ i => simp at hi
theorem bvE {x : Operand} {β b : Bool} (h : a.eval x = .bool b) (e : b = β) : a.eval x = .bool β := e ▸ h
theorem Bk.clp {b T o : Nat} {l cs : List Value} (m : Bk w b l T) (h : (l.drop o).take cs.length = cs) : Cl w b o cs := fun j u hj => by
  have := m.cl (o + j) u (partOf h j u hj)
  rwa [Nat.zero_add] at this
end

/-! ### a whole block is written -/
theorem put_app (p l cs : List Value) (h : cs.length = l.length) : put (p ++ l) p.length cs = p ++ cs := by
  induction cs generalizing p l with
  | nil => cases l with | nil => rfl | cons a l => simp at h
  | cons c cs ih =>
    cases l with
    | nil => simp at h
    | cons a l =>
      simp only [put, List.length_cons, Nat.add_right_cancel_iff] at h ⊢
      have e : (p ++ a :: l).set p.length c = (p ++ [c]) ++ l := by
        rw [List.set_append_right _ _ (Nat.le_refl _)]; simp
      rw [e]
      have := ih (p ++ [c]) l h
      simpa using this
theorem put_all (l cs : List Value) (h : cs.length = l.length) : put l 0 cs = cs := put_app [] l cs h
theorem oStoW {P : Program} {Q : Exit → Act → World → Prop} {KK : Act → World → Prop} {a : Act} {w : World} {N b : Nat} {ty T Tb : TypeId} {pos : String} {af : Array Edge} {v : Value} {x y : Operand} {l : List Value} {g : Option (Nat × Bool)} {cs : List Value} (z : Z N a) (hx : a.eval x = ptr b 0) (hy : a.eval y = v) (m : Bk w b l Tb) (hT : ∀ w, (sizeOf T).run P w = .ok cs.length w) (hc : v.cells = cs.toArray) (h1 : ∀ u ∈ cs, u.oneCell' = true) (hn : cs.length = l.length)
    (k : ∀ w', Bk w' b cs Tb → G [b] w w' → KK a w') : Oper.wp P ⟨none, .store T x y, ty, pos, af, g⟩ a w KK Q :=
  oSto z hx hy m hT hc h1 (by rw [Nat.zero_add, hn]; exact ble (Nat.le_refl _)) (put_all l cs hn) k

/-! ### a region that draws its order -/
section held
variable {P : Program} {ops : Array Oper} {Q : Exit → Act → World → Prop} {S : World → Prop} {a : Act} {w : World} {N d fuel : Nat} {listed : Array Bool} {op : Op} {ty : TypeId} {pos : String} {af : Array Edge} {v : Value} {i j : Nat}
theorem regJ {id : Nat} {b : Bool} (Φ : Act → World → Prop) (h1 : (Code.region id ops b).wp P (fun e a w => e = .normal ∧ Φ a w) a w) (h2 : ∀ a' w', Φ a' w' → Q .normal a' w') : (Code.region id ops b).wp P Q a w :=
  Code.wp_mono (fun e a w ⟨he, h⟩ => by subst he; exact h2 a w h) h1
/-- what an operation waits for -/
def pre (ops : Array Oper) (j : Nat) : List Nat := match ops[j]? with
  | some o => (o.after.toList.filter fun e => Region.binds .any e).map (·.on)
  | none => []
/-- what it waits for, at most three steps back -/
def anc (ops : Array Oper) : Nat → Nat → List Nat
  | 0, _ => []
  | f + 1, j => pre ops j ++ (pre ops j).flatMap (anc ops f)
/-- what is listed has all that it waits for listed -/
def dcB (ops : Array Oper) (listed : Array Bool) : Bool := (List.range ops.size).all fun k => !(listed.getD k false) || (pre ops k).all fun i => listed.getD i false
def DC (ops : Array Oper) (listed : Array Bool) : Prop := ∀ k, listed.getD k false = true → ∀ i ∈ pre ops k, listed.getD i false = true
theorem dc_of {listed : Array Bool} (h : dcB ops listed = true) : DC ops listed := fun k hk i hi => by
  by_cases hs : k < ops.size
  · have := List.all_eq_true.1 h k (by simpa using hs)
    rw [hk] at this
    simp only [Bool.not_true, Bool.false_or] at this
    exact List.all_eq_true.1 this i hi
  · unfold pre at hi
    rw [Array.getElem?_eq_none (by omega)] at hi
    cases hi
theorem anc_listed {listed : Array Bool} (hdc : DC ops listed) : ∀ (f j : Nat), (∀ i ∈ pre ops j, listed.getD i false = true) → ∀ i ∈ anc ops f j, listed.getD i false = true
  | 0, _, _, i, hi => by cases hi
  | f + 1, j, h, i, hi => by
    rcases List.mem_append.1 hi with h1 | h1
    · exact h i h1
    · obtain ⟨k, hk, h2⟩ := List.mem_flatMap.1 h1
      exact anc_listed hdc f k (hdc k (h k hk)) i h2
theorem dc_set {listed : Array Bool} {j : Nat} (hdc : DC ops listed) (h : ∀ i ∈ pre ops j, listed.getD i false = true) : DC ops (listed.setIfInBounds j true) := fun k hk i hi => by
  have mono : ∀ i, listed.getD i false = true → (listed.setIfInBounds j true).getD i false = true := fun i h => by
    simp only [Array.getD_eq_getD_getElem?, Array.getElem?_setIfInBounds] at h ⊢
    split
    · split
      · rfl
      · rename_i h1 h2
        subst h1
        rw [Array.getElem?_eq_none (by omega)] at h; simp at h
    · exact h
  by_cases hkj : k = j
  · subst hkj; exact mono i (h i hi)
  · refine mono i (hdc k ?_ i hi)
    simp only [Array.getD_eq_getD_getElem?, Array.getElem?_setIfInBounds, if_neg (Ne.symm hkj)] at hk ⊢
    exact hk
/-- An operation leaves the words of each load alone that it doesn't wait for. -/
def Pres (p : List Nat) : List (Nat × (World → Prop)) → World → World → Prop
  | [], _, _ => True
  | c :: cs, w, w' => (p.contains c.1 = true ∨ (c.2 w → c.2 w')) ∧ Pres p cs w w'
theorem Pres.refl (p : List Nat) : ∀ (Cs : List (Nat × (World → Prop))) (w : World), Pres p Cs w w
  | [], _ => trivial
  | _ :: cs, w => ⟨.inr id, Pres.refl p cs w⟩
theorem Pres.get {p : List Nat} {Cs : List (Nat × (World → Prop))} {w w' : World} (h : Pres p Cs w w') {i : Nat} {c : World → Prop} (hm : (i, c) ∈ Cs) (hn : i ∉ p) (hc : c w) : c w' := by
  induction Cs with
  | nil => cases hm
  | cons d cs ih =>
    rcases List.mem_cons.1 hm with rfl | hm
    · rcases h.1 with h1 | h1
      · exact absurd (by simpa using h1) hn
      · exact h1 hc
    · exact ih h.2 hm
def wpAnyG (P : Program) (ops : Array Oper) (Q : Exit → Act → World → Prop) (Cs : List (Nat × (World → Prop))) : Nat → Array Bool → Act → World → Prop
  | 0, listed, a, w => Region.ready .any ops listed = [] ∧ Q .normal a w
  | fuel + 1, listed, a, w =>
    (Region.ready .any ops listed = [] → Q .normal a w) ∧
    ∀ i ∈ Region.ready .any ops listed, wpOp P ops Q i (fun a' w' => Pres (anc ops 3 i) Cs w w' ∧ wpAnyG P ops Q Cs fuel (listed.setIfInBounds i true) a' w') a w
variable {Cs : List (Nat × (World → Prop))} {cond : World → Prop}
theorem wpAny_of_G : ∀ (fuel : Nat) (listed : Array Bool) (a : Act) (w : World), wpAnyG P ops Q Cs fuel listed a w → wpAny P .any ops Q fuel listed a w
  | 0, _, _, _, h => h
  | fuel + 1, _, _, _, h => ⟨h.1, fun i hi => wpOp_mono (fun a' w' h' => wpAny_of_G fuel _ a' w' h'.2) (h.2 i hi)⟩
theorem not_pre {oj : Oper} (hoj : ops[j]? = some oj) (h : ∀ e ∈ oj.after, Region.binds .any e = true → e.on ≠ i) : i ∉ pre ops j := by
  unfold pre
  rw [hoj]
  intro hm
  obtain ⟨e, he, rfl⟩ := List.mem_map.1 hm
  obtain ⟨h1, h2⟩ := List.mem_filter.1 he
  exact h e (by simpa using h1) h2 rfl
theorem pre_listed {oj : Oper} {listed : Array Bool} (hoj : ops[j]? = some oj) (h : ∀ e ∈ oj.after, Region.binds .any e = true → listed.getD e.on false = true) : ∀ i ∈ pre ops j, listed.getD i false = true := fun i hi => by
  unfold pre at hi
  rw [hoj] at hi
  obtain ⟨e, he, rfl⟩ := List.mem_map.1 hi
  obtain ⟨h1, h2⟩ := List.mem_filter.1 he
  exact h e (by simpa using h1) h2
theorem wpAnyG_first {oi : Oper} {v : Value} (hi : ops[i]? = some oi) (hsel : ∀ (j : Nat) (o : Oper) cs b, ops[j]? = some o → o.op ≠ .select cs b)
    (hQ : ∀ c a w, Q (.panic c) (a.put oi.dst v) w → Q (.panic c) a w) (hC : (∀ w, cond w) ∨ (i, cond) ∈ Cs) :
    ∀ (fuel : Nat) (listed : Array Bool) (a : Act) (w : World),
      (∀ j oj, ops[j]? = some oj → j ≠ i → listed.getD j true = false → (∀ e ∈ oj.after, Region.binds .any e = true → e.on ≠ i) → oi.apart ops oj = true) →
      DC ops listed → i ∈ Region.ready .any ops listed → YieldsIf P ops cond oi v a → cond w →
      wpAnyG P ops Q Cs fuel (listed.setIfInBounds i true) (a.put oi.dst v) w → wpAnyG P ops Q Cs (fuel + 1) listed a w := by
  intro fuel
  induction fuel with
  | zero =>
    intro listed a w _ _ hr hy hS H
    refine ⟨fun h => (by rw [h] at hr; cases hr), fun j hj => ?_⟩
    by_cases hji : j = i
    · subst hji; exact hy.wpOp hi hS ⟨Pres.refl _ _ _, H⟩
    · have := ready_mono hj hji
      rw [H.1] at this
      cases this
  | succ fuel ih =>
    intro listed a w hfree hdc hr hy hS H
    refine ⟨fun h => (by rw [h] at hr; cases hr), fun j hj => ?_⟩
    by_cases hji : j = i
    · subst hji; exact hy.wpOp hi hS ⟨Pres.refl _ _ _, H⟩
    · have h1 := H.2 j (ready_mono hj hji)
      obtain ⟨hjun, oj, hoj, hall⟩ := mem_ready.1 hj
      have hnot : ∀ e ∈ oj.after, Region.binds .any e = true → e.on ≠ i := fun e he hb heq => by
        have h1 := hall e he hb
        have h0 := (mem_ready.1 hr).1
        rw [heq] at h1
        rcases Nat.lt_or_ge i listed.size with h' | h'
        · simp [h'] at h0 h1; rw [h0] at h1; cases h1
        · simp [Array.getElem?_eq_none h'] at h1
      have h2 := wpOp_putIf hoj (hfree j oj hoj hji hjun hnot) (fun cs b => hsel i oi cs b hi) (fun cs b => hsel j oj cs b hoj) hQ hy h1
      have hfree' : ∀ k ok, ops[k]? = some ok → k ≠ i → (listed.setIfInBounds j true).getD k true = false →
          (∀ e ∈ ok.after, Region.binds .any e = true → e.on ≠ i) → oi.apart ops ok = true := fun k ok hk hki hun hno => by
        refine hfree k ok hk hki ?_ hno
        by_cases hjk : j = k
        · subst hjk; exact hjun
        · rw [getD_set_ne true hjk] at hun; exact hun
      refine wpOp_mono (fun a' w' h3 => ⟨h3.2.1, ?_⟩) h2
      have hS' : cond w' := hC.elim (fun h => h w') (fun hm => h3.2.1.get hm (fun hi => by
        have h1 := anc_listed hdc 3 j (pre_listed hoj hall) i hi
        have h0 := (mem_ready.1 hr).1
        rcases Nat.lt_or_ge i listed.size with h' | h'
        · simp [h'] at h0 h1; rw [h0] at h1; cases h1
        · simp [Array.getElem?_eq_none h'] at h1) hS)
      refine ih (listed.setIfInBounds j true) a' w' hfree' (dc_set hdc (pre_listed hoj hall)) (ready_mono hr (Ne.symm hji)) h3.1 hS' ?_
      rw [Array.setIfInBounds_comm _ _ hji]
      exact h3.2.2
theorem regH {id n : Nat} (Cs : List (Nat × (World → Prop))) (hm : P.follows .mixedOrders = true) (hn : ops.size = n) (h : wpAnyG P ops Q Cs n (Array.replicate n false) a w.drew) : (Code.region id ops true).wp P Q a w := by
  subst hn; exact wp_region_any hm (wpAny_of_G _ _ _ _ h)
section take
variable {gd : Option (Nat × Bool)} (hi : ops[i]? = some ⟨some d, op, ty, pos, af, gd⟩) (hs : (Region.noSelect ops && dcB ops listed) = true) (hf : Region.free .any ops listed i = true) (hr : (Region.ready .any ops listed).contains i = true)
    (hQ : ∀ e a w, Q e a w → e = .normal)
include hi hs hf hr hQ
theorem hTakeW (hC : (∀ w, cond w) ∨ (i, cond) ∈ Cs) (z : Z N a) (hw : Region.wanted ⟨some d, op, ty, pos, af, gd⟩ (yielded ops a.tmps) = true) (hok : ∀ w', cond w' → Ok P a w' op ty v) (hS : cond w) (hd : Nat.ble (d + 1) N = true)
    (k : ∀ a', Pt N a d v a' → a'.eval (.tmp d) = v → wpAnyG P ops Q Cs fuel (listed.setIfInBounds i true) a' w) : wpAnyG P ops Q Cs (fuel + 1) listed a w :=
  wpAnyG_first hi (Region.noSelect_spec (Bool.and_eq_true_iff.1 hs).1) (fun c a w h => by have := hQ _ _ _ h; cases this) hC fuel listed a w (Region.free_spec hi hf) (dc_of (Bool.and_eq_true_iff.1 hs).2) (by simpa using hr)
    (.inl ⟨hw, fun w' hS' => hok w' hS' _ _ _ _⟩) hS (k _ (Pt.mk' z hd) (Pt.mk' z hd).n)
/-- an operation that is passed over -/
theorem hSkip {o : Option Bool} {j : Nat} {b : Bool} (hg : gd = some (j, b)) (z : Z N a) (hy : yielded ops a.tmps j = o) (hne : (o == some b) = false) (hd : Nat.ble (d + 1) N = true)
    (k : ∀ a', Pt N a d undef a' → a'.eval (.tmp d) = undef → wpAnyG P ops Q Cs fuel (listed.setIfInBounds i true) a' w) : wpAnyG P ops Q Cs (fuel + 1) listed a w :=
  wpAnyG_first (cond := fun _ => True) hi (Region.noSelect_spec (Bool.and_eq_true_iff.1 hs).1) (fun c a w h => by have := hQ _ _ _ h; cases this) (.inl fun _ => trivial) fuel listed a w (Region.free_spec hi hf) (dc_of (Bool.and_eq_true_iff.1 hs).2) (by simpa using hr)
    (.inr ⟨by subst hg; simp [Region.wanted, hy]; simpa using hne, rfl⟩) trivial (k _ (Pt.mk' z hd) (Pt.mk' z hd).n)
end take
theorem wN {o : Oper} {y : Nat → Option Bool} (h : o.guard = none) : Region.wanted o y = true := by simp [Region.wanted, h]
theorem wG {o : Oper} {j : Nat} {b : Bool} {y : Nat → Option Bool} (h : o.guard = some (j, b)) (hy : y j = some b) : Region.wanted o y = true := by simp [Region.wanted, h, hy]
theorem hOp {o : Oper} {K : Act → World → Prop} (hi : ops[i]? = some o) (hg : o.guard = none) (h : o.wp P a w K Q) : wpOp P ops Q i K a w := by
  unfold wpOp
  simp only [hi]
  rw [if_pos (by simp [Region.wanted, hg])]
  exact .inl h
theorem hOne {o : Oper} (hr : Region.ready .any ops listed = [i]) (hi : ops[i]? = some o) (h : o.wp P a w (fun a' w' => Pres (anc ops 3 i) Cs w w' ∧ wpAnyG P ops Q Cs fuel (listed.setIfInBounds i true) a' w') Q) (hg : o.guard = none := by rfl) : wpAnyG P ops Q Cs (fuel + 1) listed a w :=
  ⟨fun h0 => (by rw [h0] at hr; cases hr), hr ▸ fun i' hi' => by
    simp only [List.mem_singleton] at hi'; subst hi'
    exact hOp hi hg h⟩
theorem hOneG {o : Oper} (hr : Region.ready .any ops listed = [i]) (hi : ops[i]? = some o) (hw : Region.wanted o (yielded ops a.tmps) = true) (h : o.wp P a w (fun a' w' => Pres (anc ops 3 i) Cs w w' ∧ wpAnyG P ops Q Cs fuel (listed.setIfInBounds i true) a' w') Q) : wpAnyG P ops Q Cs (fuel + 1) listed a w :=
  ⟨fun h0 => (by rw [h0] at hr; cases hr), hr ▸ fun i' hi' => by
    simp only [List.mem_singleton] at hi'; subst hi'
    unfold wpOp
    simp only [hi]
    rw [if_pos hw]
    exact .inl h⟩
theorem hOneK {o : Option Bool} {b : Bool} (hr : Region.ready .any ops listed = [i]) (hi : ops[i]? = some ⟨some d, op, ty, pos, af, some (j, b)⟩) (z : Z N a) (hy : yielded ops a.tmps j = o) (hne : (o == some b) = false) (hd : Nat.ble (d + 1) N = true)
    (k : ∀ a', Pt N a d undef a' → a'.eval (.tmp d) = undef → wpAnyG P ops Q Cs fuel (listed.setIfInBounds i true) a' w) : wpAnyG P ops Q Cs (fuel + 1) listed a w :=
  ⟨fun h0 => (by rw [h0] at hr; cases hr), hr ▸ fun i' hi' => by
    simp only [List.mem_singleton] at hi'; subst hi'
    unfold wpOp
    simp only [hi]
    rw [if_neg (by simp [Region.wanted, hy]; simpa using hne)]
    exact ⟨Pres.refl _ _ _, k _ (Pt.mk' z hd) (Pt.mk' z hd).n⟩⟩
theorem hTwo {o o2 : Oper} (hr : Region.ready .any ops listed = [i, j]) (hi : ops[i]? = some o) (hj : ops[j]? = some o2) (hg : o.guard = none) (hg2 : o2.guard = none) (h : o.wp P a w (fun a' w' => Pres (anc ops 3 i) Cs w w' ∧ wpAnyG P ops Q Cs fuel (listed.setIfInBounds i true) a' w') Q) (h2 : o2.wp P a w (fun a' w' => Pres (anc ops 3 j) Cs w w' ∧ wpAnyG P ops Q Cs fuel (listed.setIfInBounds j true) a' w') Q) : wpAnyG P ops Q Cs (fuel + 1) listed a w :=
  ⟨fun h0 => (by rw [h0] at hr; cases hr), hr ▸ fun i' hi' => by
    simp only [List.mem_cons, List.not_mem_nil, or_false] at hi'
    rcases hi' with rfl | rfl
    · exact hOp hi hg h
    · exact hOp hj hg2 h2⟩
theorem hDone (hr : Region.ready .any ops listed = []) (h : Q .normal a w) : wpAnyG P ops Q Cs fuel listed a w := by
  cases fuel with
  | zero => exact ⟨hr, h⟩
  | succ n => exact ⟨fun _ => h, by rw [hr]; simp⟩
theorem nrm {Φ : Act → World → Prop} : ∀ e a w, (e = Exit.normal ∧ Φ a w) → e = .normal := fun _ _ _ h => h.1
end held
end Go.Proofs.YtbfndihcbogjfaaDoor.Gx
