/-
  Plain theorems, over any program: operations that make or write memory, calls, entries, returns. Conditions: none.
-/
import Derived.Test.YtbfndihcbogjfaaDoorG2
namespace Go.Proofs.YtbfndihcbogjfaaDoor.Gx
open Go Go.RowKit

theorem upon_mono' {P : Program} {o : Oper} {a : Act} {w : World} {K K' : Act → World → Prop} {Q : Exit → Act → World → Prop} (hK : ∀ a w, K a w → K' a w) (h : o.wp P a w K Q) : o.wp P a w K' Q := Oper.wp_mono hK h

section mk
variable {KK : Act → World → Prop} {gd : Option (Nat × Bool)}  {P : Program} {ops : Array Oper} {Q : Exit → Act → World → Prop} {rest : List Oper} {a : Act} {w : World} {N d : Nat} {ty T Tb : TypeId} {pos : String} {af : Array Edge} {v : Value} {x y : Operand} {l l' vs : List Value} {b o n : Nat}

theorem alloc_bk : Bk (w.alloc (.cells l.toArray T)) w.heap.size l T := by
  show (w.heap.push _)[w.heap.size]? = _
  simp
theorem alloc_g (ob : Obj) : G [] w (w.alloc ob) := ⟨rfl, rfl, rfl, by simp, fun i hi _ => by
  simp only [World.alloc, Array.getElem?_push]
  rw [if_neg (by omega)]⟩
/-- an operation that comes next in its list -/
theorem lS {o : Oper} (h : o.wp P a w (wpList P ops Q rest) Q) (hg : o.guard = none := by rfl) : wpList P ops Q (o :: rest) a w := wpList_plain hg fun K hK => by
  have e : wpList P ops Q rest = wpList P ops Q rest := rfl
  exact upon_mono' hK h
theorem lG {o : Oper} {j : Nat} {c : Bool} (hg : o.guard = some (j, c)) (hy : yielded ops a.tmps j = some c) (h : o.wp P a w (wpList P ops Q rest) Q) : wpList P ops Q (o :: rest) a w := wpList_step fun K hK => by
  rw [if_pos (by simp [Region.wanted, hg, hy])]
  exact upon_mono' hK h
theorem oBox (z : Z N a) (hx : a.eval x = v) (hc : v.cells = l.toArray) (hd : Nat.ble (d + 1) N = true)
    (k : ∀ a' w' b, Pt N a d (ptr b 0) a' → a'.eval (.tmp d) = ptr b 0 → Bk w' b l T → G [] w w' → b = w.heap.size → KK a' w') : Oper.wp P ⟨some d, .box T x, ty, pos, af, gd⟩ a w KK Q := by
  unfold Oper.wp
  simp only [execOp, Instr.box, newVar, newRow, Sem.run_bind, run_newObj, Result.andThen_ok, Sem.run_pure, hx, hc]
  exact (k _ _ _ (Pt.mk' z hd) (Pt.mk' z hd).n alloc_bk (alloc_g _) rfl)
def ZV (P : Program) (T : TypeId) (l : List Value) : Prop := ∃ zv, (∀ w, (zeroValue T).run P w = .ok zv w) ∧ zv.cells = l.toArray
theorem oAlloc (hz : ZV P T l) (z : Z N a) (hd : Nat.ble (d + 1) N = true)
    (k : ∀ a' w' b, Pt N a d (ptr b 0) a' → a'.eval (.tmp d) = ptr b 0 → Bk w' b l T → G [] w w' → b = w.heap.size → KK a' w') : Oper.wp P ⟨some d, .alloc T, ty, pos, af, gd⟩ a w KK Q := by
  obtain ⟨zv, h1, h3⟩ := hz
  unfold Oper.wp
  simp only [execOp, Instr.alloc, newVar, newRow, Sem.run_bind, h1, run_newObj, Result.andThen_ok, Sem.run_pure, h3]
  exact (k _ _ _ (Pt.mk' z hd) (Pt.mk' z hd).n alloc_bk (alloc_g _) rfl)

theorem sto1 (m : Bk w b l Tb) (ho : o < l.length) (h1 : v.oneCell' = true) : (store ⟨b, o, none⟩ v).run P w = .ok () (w.setCell ⟨b, o, none⟩ v) ∧ Bk (w.setCell ⟨b, o, none⟩ v) b (l.set o v) Tb ∧ G [b] w (w.setCell ⟨b, o, none⟩ v) := by
  have hc : w.cell? ⟨b, o, none⟩ = some l[o] := by simpa using m.cl o l[o] (List.getElem?_eq_getElem ho)
  have hf : w.frozen? ⟨b, o, none⟩ = false := by simp [World.frozen?, show w.heap[b]? = _ from m]
  refine ⟨by rw [run_store P w _ v .plain h1]; simp [hc, hf], ?_, ⟨rfl, rfl, rfl, by simp, fun i _ hn => ?_⟩⟩
  · unfold Bk World.setCell
    simp [Array.getElem?_modify, show w.heap[b]? = _ from m]
  · simp only [List.mem_singleton] at hn
    simp [World.setCell, Array.getElem?_modify, Ne.symm hn]
def put (l : List Value) (o : Nat) : List Value → List Value
  | [] => l
  | v :: vs => put (l.set o v) (o + 1) vs
theorem put_length (l vs : List Value) (o : Nat) : (put l o vs).length = l.length := by
  induction vs generalizing l o with
  | nil => rfl
  | cons v vs ih => simp [put, ih]
theorem stoA (vs : List Value) : ∀ (w : World) (l : List Value) (i : Nat), Bk w b l Tb → o + i + vs.length ≤ l.length → (∀ u ∈ vs, u.oneCell' = true) →
    ∃ w', (storeCells ⟨b, o, none⟩ vs i).run P w = .ok () w' ∧ Bk w' b (put l (o + i) vs) Tb ∧ G [b] w w' ∧ w'.heap.size = w.heap.size := by
  induction vs with
  | nil => exact fun w l i m _ _ => ⟨w, rfl, m, G.refl _ _, rfl⟩
  | cons v vs ih =>
    intro w l i m hl h1
    simp only [List.length_cons] at hl
    obtain ⟨hr, hm, hg⟩ := sto1 (P := P) m (o := o + i) (v := v) (by omega) (h1 v (by simp))
    obtain ⟨w', hr', hm', hg', hs⟩ := ih _ _ (i + 1) hm (by simp; omega) (fun u hu => h1 u (by simp [hu]))
    refine ⟨w', ?_, hm', hg.trans hg' (fun i hi => .inl hi), by simpa using hs⟩
    simp only [storeCells, Sem.run_bind, add_eq, hr, Result.andThen_ok, hr']
/-- one word into a known block -/
theorem oSto {cs : List Value} (z : Z N a) (hx : a.eval x = ptr b o) (hy : a.eval y = v) (m : Bk w b l Tb) (hT : ∀ w, (sizeOf T).run P w = .ok cs.length w) (hc : v.cells = cs.toArray) (h1 : ∀ u ∈ cs, u.oneCell' = true) (ho : Nat.ble (o + cs.length) l.length = true) (hl : put l o cs = l')
    (k : ∀ w', Bk w' b l' Tb → G [b] w w' → KK a w') : Oper.wp P ⟨none, .store T x y, ty, pos, af, gd⟩ a w KK Q := by
  subst hl
  obtain ⟨w', hr, hm, hg, _⟩ := stoA (P := P) (b := b) (o := o) cs w l 0 m (by simpa using Nat.le_of_ble_eq_true ho) h1
  unfold Oper.wp
  simp only [execOp, Instr.storeAt, Instr.sureAddr, hx, hy, ptr, storeVar, Sem.run_bind, Sem.run_pure, Result.andThen_ok, hT, hc, List.size_toArray, ne_eq, not_true, if_false, hr]
  exact (k _ (by simpa using hm) hg)

/-! ### calls -/
def Enter (P : Program) (f : FuncId) : Prop := ∀ (args : Array Value) (w : World), (callFunc f args).run P w = .ok (.enter f args) w
theorem enter_of {f : FuncId} {fn : Func} {c : Code} (hf : P.funcs[f]? = some fn) (hb : fn.body = some c) (hn : (fn.name == "runtime.NumGoroutine") = false) : Enter P f := fun args w => by
  simp only [callFunc, Sem.run_bind, run_program, Result.andThen_ok, hf, hn, hb, Option.isNone_some, Bool.false_eq_true, if_false, Sem.run_pure]
theorem oCall {f : FuncId} {args : Array Operand} {ts : Array TypeId} {as : Array Value} {R : Value → World → Prop} (z : Z N a) (he : Enter P f) (ha : args.map a.eval = as) (hc : Calls P f as w (fun e w' => ∃ v, e = .returned v ∧ R v w')) (hd : Nat.ble (d + 1) N = true)
    (k : ∀ v a' w', R v w' → Pt N a d v a' → a'.eval (.tmp d) = v → KK a' w') : Oper.wp P ⟨some d, .call { callee := .value (.func f), args := args, argTypes := ts }, ty, pos, af, gd⟩ a w KK Q := by
  unfold Oper.wp
  have e : (execOp a.eval ⟨some d, .call { callee := .value (.func f), args := args, argTypes := ts }, ty, pos, af, gd⟩).run P w = .ok (.enter f as) w := by
    simp [execOp, resolve, Deferred.ofValue, Act.eval, invoke, ← ha, he _ w]
  rw [e]
  refine hc.mono fun e w' ⟨v, he, hr⟩ => ?_
  subst he
  exact (k _ _ _ hr (Pt.mk' z hd) (Pt.mk' z hd).n)
/-- a call of a function value -/
theorem oCallV {f : FuncId} {args : Array Operand} {ts : Array TypeId} {as cap : Array Value} {R : Value → World → Prop} (z : Z N a) (hx : a.eval x = .func (.func f) #[] cap) (he : Enter P f) (ha : args.map a.eval = as) (hc : Calls P f (as ++ cap) w (fun e w' => ∃ v, e = .returned v ∧ R v w')) (hd : Nat.ble (d + 1) N = true)
    (k : ∀ v a' w', R v w' → Pt N a d v a' → a'.eval (.tmp d) = v → KK a' w') : Oper.wp P ⟨some d, .call { callee := .value x, args := args, argTypes := ts }, ty, pos, af, gd⟩ a w KK Q := by
  unfold Oper.wp
  have e : (execOp a.eval ⟨some d, .call { callee := .value x, args := args, argTypes := ts }, ty, pos, af, gd⟩).run P w = .ok (.enter f (as ++ cap)) w := by
    simp [execOp, resolve, Deferred.ofValue, hx, invoke, ← ha, he _ w]
  rw [e]
  refine hc.mono fun e w' ⟨v, he, hr⟩ => ?_
  subst he
  exact (k _ _ _ hr (Pt.mk' z hd) (Pt.mk' z hd).n)
theorem ag0 : (#[] : Array Operand).map a.eval = #[] := by simp
theorem ag1 {x1 : Operand} {v1 : Value} (h1 : a.eval x1 = v1) : (#[x1] : Array Operand).map a.eval = #[v1] := by simp [h1]
theorem ag2 {x1 x2 : Operand} {v1 v2 : Value} (h1 : a.eval x1 = v1) (h2 : a.eval x2 = v2) : (#[x1, x2] : Array Operand).map a.eval = #[v1, v2] := by simp [h1, h2]
theorem ag3 {x1 x2 x3 : Operand} {v1 v2 v3 : Value} (h1 : a.eval x1 = v1) (h2 : a.eval x2 = v2) (h3 : a.eval x3 = v3) : (#[x1, x2, x3] : Array Operand).map a.eval = #[v1, v2, v3] := by simp [h1, h2, h3]
theorem ag4 {x1 x2 x3 x4 : Operand} {v1 v2 v3 v4 : Value} (h1 : a.eval x1 = v1) (h2 : a.eval x2 = v2) (h3 : a.eval x3 = v3) (h4 : a.eval x4 = v4) : (#[x1, x2, x3, x4] : Array Operand).map a.eval = #[v1, v2, v3, v4] := by simp [h1, h2, h3, h4]
theorem ag5 {x1 x2 x3 x4 x5 : Operand} {v1 v2 v3 v4 v5 : Value} (h1 : a.eval x1 = v1) (h2 : a.eval x2 = v2) (h3 : a.eval x3 = v3) (h4 : a.eval x4 = v4) (h5 : a.eval x5 = v5) : (#[x1, x2, x3, x4, x5] : Array Operand).map a.eval = #[v1, v2, v3, v4, v5] := by simp [h1, h2, h3, h4, h5]

/-! ### entry and return -/
theorem enterF {f : FuncId} {fn : Func} {c : Code} {args : Array Value} {R : Ending → World → Prop} (hf : P.funcs[f]? = some fn) (hb : fn.body = some c) (hN : Nat.ble args.size fn.ntmps = true)
    (h : ∀ a, Z fn.ntmps a → (∀ (i : Nat) (v : Value), args[i]? = some v → a.eval (.tmp i) = v) → c.wp P (bodyPost P fn R) a w) : Calls P f args w R := by
  have hN := Nat.le_of_ble_eq_true hN
  refine calls_of_wp hf hb (h _ ⟨by simp; omega, rfl⟩ fun i v hi => ?_)
  have hlt := (Array.getElem?_eq_some_iff.1 hi).1
  simp only [Act.eval, Array.getD_eq_getD_getElem?]
  rw [Array.getElem?_append_left hlt, hi]; rfl
def RV (P : Program) (a : Act) (w : World) : ResultVar → Value → Prop
  | .tmp t, v => a.eval (.tmp t) = v
  | .cell t T, v => ∃ b o, a.eval (.tmp t) = ptr b o ∧ (loadVar T ⟨b, o, none⟩).run P w = .ok v w
theorem rvT {t : Nat} (h : a.eval (.tmp t) = v) : RV P a w (.tmp t) v := h
theorem rvA {t : Nat} (hA : AG P T n) (h : a.eval (.tmp t) = ptr b 0) (m : Bk w b l Tb) (hl : l.length = n) : RV P a w (.cell t T) (.agg l.toArray) := by
  refine ⟨b, 0, h, ?_⟩
  have hld := run_loadCells_list (P := P) (w := w) ⟨b, 0, none⟩ l (fun i v hi => by rw [add_eq]; exact m.cl i v hi)
  rw [hl] at hld
  simp [loadVar, hA.1 w, hA.2 w, hld]
theorem rv1 {t : Nat} (hA : NA P T) (h : a.eval (.tmp t) = ptr b 0) (m : Bk w b [v] Tb) : RV P a w (.cell t T) v := by
  refine ⟨b, 0, h, ?_⟩
  have := m.cl 0 v rfl
  simp [loadVar, hA w, run_load, this]
def rvS (tmps : Array Value) : ResultVar → Sem Value
  | .tmp t => pure (tmps.getD t undef)
  | .cell a t => do loadVar t (← asAddr (tmps.getD a undef))
theorem results_eq (fn : Func) (tmps : Array Value) : results fn tmps = (do
    let vs ← fn.results.mapM (rvS tmps)
    pure (if h : vs.size = 1 then vs[0] else .tuple vs)) := by
  have e : rvS tmps = (fun r => match r with
    | .tmp t => pure (tmps.getD t undef)
    | .cell a t => do loadVar t (← asAddr (tmps.getD a undef))) := by funext r; cases r <;> rfl
  unfold results
  rw [e]
  congr 2
theorem rv_run {r : ResultVar} (h : RV P a w r v) : (rvS a.tmps r).run P w = .ok v w := by
  cases r with
  | tmp t => simp only [RV, Act.eval] at h; simp only [rvS, Sem.run_pure, h]
  | cell t T =>
    obtain ⟨b, o, h1, h2⟩ := h
    simp only [Act.eval] at h1
    simp only [rvS, h1, ptr, asAddr, Sem.run_bind, Sem.run_pure, Result.andThen_ok, h2]
section
variable {fn : Func} {R : Ending → World → Prop} {r1 r2 r3 r4 r5 : ResultVar} {v1 v2 v3 v4 v5 : Value}
theorem ret1 (z : Z N a) (hr : fn.results = #[r1]) (h1 : RV P a w r1 v1) (h : R (.returned v1) w) : bodyPost P fn R .ret a w := by
  refine ⟨z.df, v1, ?_, h⟩
  have e1 := rv_run h1
  simp [results_eq, hr, e1]
theorem ret2 (z : Z N a) (hr : fn.results = #[r1, r2]) (h1 : RV P a w r1 v1) (h2 : RV P a w r2 v2) (h : R (.returned (.tuple #[v1, v2])) w) : bodyPost P fn R .ret a w := by
  refine ⟨z.df, _, ?_, h⟩
  have e1 := rv_run h1
  have e2 := rv_run h2
  simp [results_eq, hr, e1, e2]
theorem ret3 (z : Z N a) (hr : fn.results = #[r1, r2, r3]) (h1 : RV P a w r1 v1) (h2 : RV P a w r2 v2) (h3 : RV P a w r3 v3) (h : R (.returned (.tuple #[v1, v2, v3])) w) : bodyPost P fn R .ret a w := by
  refine ⟨z.df, _, ?_, h⟩
  have e1 := rv_run h1
  have e2 := rv_run h2
  have e3 := rv_run h3
  simp [results_eq, hr, e1, e2, e3]
theorem ret0 (z : Z N a) (hr : fn.results = #[]) (h : R (.returned (.tuple #[])) w) : bodyPost P fn R .ret a w := by
  refine ⟨z.df, _, ?_, h⟩
  simp [results_eq, hr]
end
end mk
end Go.Proofs.YtbfndihcbogjfaaDoor.Gx
