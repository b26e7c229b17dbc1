/-
  Plain theorems, over any program: jumps back to a label; ranges over strings; copies into arrays; calls of known function values. Conditions: as said.
-/
import Derived.Test.YtbfndihcbogjfaaDoorG14
import Derived.ScopeJumps
namespace Go.Proofs.YtbfndihcbogjfaaDoor.Gx
open Go Go.RowKit
section
variable {P : Program} {Q : Exit → Act → World → Prop} {a : Act} {w : World}
/-- from the label on, in a scope -/
def JW (P : Program) (c : Code) (l : Nat) (Q : Exit → Act → World → Prop) (a : Act) (w : World) : Prop := ∀ (rest : Code), findLabel c l = some rest → ∀ (b : Frame) (k : List Item) (cs : List Frame),
  ∃ e a' w', Q e a' w' ∧ Arrives P (lone (b.at a (.code rest :: .inScope c :: k)) cs w) b k cs e a' w'
theorem scopeX {c rest : Code} (l : Nat) (hf : findLabel c l = some rest) (first : c.wp P (Exit.jump l (JW P c l Q) Q) a w) : (Code.scope c).wp P Q a w := by
  intro b k cs
  have hg : gotoIn l (.inScope c :: k) = some (.code rest :: .inScope c :: k) := by simp [gotoIn, hf]
  obtain ⟨e, a₁, w₁, hq, harr⟩ := first b (.inScope c :: k) cs
  cases e with
  | normal => exact ⟨.normal, a₁, w₁, hq, .head step_scope (Steps.trans harr (.one step_inScope))⟩
  | exit id => exact ⟨.exit id, a₁, w₁, hq, fun k' hk => .head step_scope (harr k' (by simp [exitTo, hk]))⟩
  | goto l' =>
    obtain ⟨rfl, hJ'⟩ := hq
    obtain ⟨e₂, a₂, w₂, hq₂, harr₂⟩ := hJ' rest hf b k cs
    exact ⟨e₂, a₂, w₂, hq₂, .of_steps (.head step_scope (harr _ hg)) harr₂⟩
  | ret => exact ⟨_, a₁, w₁, hq, .of_steps (.one step_scope) harr⟩
  | panic ch => exact ⟨_, a₁, w₁, hq, .of_steps (.one step_scope) harr⟩
  | outgrown => exact ⟨_, a₁, w₁, hq, .of_steps (.one step_scope) harr⟩
theorem labelX {c R : Code} {l : Nat} {I : Nat → Act → World → Prop} {k0 : Nat} (hf : findLabel c l = some (.seq .skip R)) (h0 : I k0 a w)
    (round : ∀ k a w, I k a w → R.wp P (Exit.jump l (fun a' w' => ∃ k', k' < k ∧ I k' a' w') Q) a w) : (Code.seq (.label l) R).wp P (Exit.jump l (JW P c l Q) Q) a w := by
  have key : ∀ n a w, I n a w → JW P c l Q a w := by
    intro n
    induction n using Nat.strongRecOn with
    | _ n ih =>
      intro a w hI rest hr b k cs
      rw [hf] at hr
      obtain rfl := Option.some.inj hr
      have hg : gotoIn l (.inScope c :: k) = some (.code (.seq .skip R) :: .inScope c :: k) := by simp [gotoIn, hf]
      have hp : (Code.seq .skip R).wp P (Exit.jump l (fun a' w' => ∃ k', k' < n ∧ I k' a' w') Q) a w := wp_seq (wp_skip (round n a w hI))
      obtain ⟨e, a₁, w₁, hq, harr⟩ := hp b (.inScope c :: k) cs
      cases e with
      | normal => exact ⟨.normal, a₁, w₁, hq, Steps.trans harr (.one step_inScope)⟩
      | exit id => exact ⟨.exit id, a₁, w₁, hq, fun k' hk => harr k' (by simp [exitTo, hk])⟩
      | goto l' =>
        obtain ⟨rfl, k', hlt, hJ'⟩ := hq
        obtain ⟨e₂, a₂, w₂, hq₂, harr₂⟩ := ih k' hlt a₁ w₁ hJ' _ hf b k cs
        exact ⟨e₂, a₂, w₂, hq₂, .of_steps (harr _ hg) harr₂⟩
      | ret => exact ⟨_, a₁, w₁, hq, harr⟩
      | panic ch => exact ⟨_, a₁, w₁, hq, harr⟩
      | outgrown => exact ⟨_, a₁, w₁, hq, harr⟩
  refine wp_seq (wp_label (Code.wp_mono (fun e a w h => ?_) (round k0 a w h0)))
  cases e with
  | goto l' =>
    obtain ⟨rfl, k', _, hJ'⟩ := h
    exact ⟨rfl, key k' _ _ hJ'⟩
  | _ => exact h
theorem jumpR {l : Nat} {J : Act → World → Prop} (h : Q .ret a w) : Exit.jump l J Q .ret a w := h
theorem jumpN {l : Nat} {J : Act → World → Prop} (h : Q .normal a w) : Exit.jump l J Q .normal a w := h
theorem jumpE {l id : Nat} {J : Act → World → Prop} (h : Q (.exit id) a w) : Exit.jump l J Q (.exit id) a w := h
theorem jumpG {l : Nat} {J : Act → World → Prop} (h : J a w) : Exit.jump l J Q (.goto l) a w := ⟨rfl, h⟩
theorem thenG {K : Act → World → Prop} {l : Nat} (h : Q (.goto l) a w) : Exit.then K Q (.goto l) a w := h
theorem blkG {id l : Nat} (h : Q (.goto l) a w) : Exit.inBlock id Q (.goto l) a w := h
end
section
variable {fn : Func} {R : Ending → World → Prop} {P : Program} {N : Nat} {a : Act} {w : World} {r1 r2 r3 r4 r5 : ResultVar} {v1 v2 v3 v4 v5 : Value}
theorem ret4 (z : Z N a) (hr : fn.results = #[r1, r2, r3, r4]) (h1 : RV P a w r1 v1) (h2 : RV P a w r2 v2) (h3 : RV P a w r3 v3) (h4 : RV P a w r4 v4) (h : R (.returned (.tuple #[v1, v2, v3, v4])) w) : bodyPost P fn R .ret a w := by
  refine ⟨z.df, _, ?_, h⟩
  have e1 := rv_run h1
  have e2 := rv_run h2
  have e3 := rv_run h3
  have e4 := rv_run h4
  simp [results_eq, hr, e1, e2, e3, e4]
theorem ret5 (z : Z N a) (hr : fn.results = #[r1, r2, r3, r4, r5]) (h1 : RV P a w r1 v1) (h2 : RV P a w r2 v2) (h3 : RV P a w r3 v3) (h4 : RV P a w r4 v4) (h5 : RV P a w r5 v5) (h : R (.returned (.tuple #[v1, v2, v3, v4, v5])) w) : bodyPost P fn R .ret a w := by
  refine ⟨z.df, _, ?_, h⟩
  have e1 := rv_run h1
  have e2 := rv_run h2
  have e3 := rv_run h3
  have e4 := rv_run h4
  have e5 := rv_run h5
  simp [results_eq, hr, e1, e2, e3, e4, e5]
end
theorem OwnS.flat {α : Type} {K : Kd α} {E : TypeId} {L L' : List Nat} {w : World} {v : Value} {xs : List α} (hf : ∀ (L L' : List Nat) (w w' : World) (cs : List Value) (x : α), K.R L w cs x → K.R L' w' cs x) (h : OwnS K E L w v xs) : OwnS K E L' w v xs := by
  obtain ⟨C, ho, h1, h2⟩ := h
  exact ⟨C, ho, h1, fun i c x a b => hf _ _ _ _ _ _ (h2 i c x a b)⟩
theorem ret0n {fn : Func} {R : Ending → World → Prop} {P : Program} {N : Nat} {a : Act} {w : World} (z : Z N a) (hr : fn.results = #[]) (h : R (.returned (.tuple #[])) w) : bodyPost P fn R .normal a w := by
  refine ⟨z.df, _, ?_, h⟩
  simp [results_eq, hr]
theorem clE {w : World} {b o o' j : Nat} {l : List Value} {u : Value} (h : l[j]? = some u) (m : Cl w b o l) (ho : o + j = o') : Cl w b o' [u] := fun i x hi => by
  subst ho
  cases i with
  | zero =>
    simp at hi; subst hi
    have := m j u h
    simpa using this
  | succ i => simp at hi
theorem okMax {P : Program} {a : Act} {w : World} {x y : Operand} {k : IntKind} {m n : Int} {ty : TypeId} {ts : Array TypeId} (hx : a.eval x = .int k m) (hy : a.eval y = .int k n) : Ok P a w (.call { callee := .builtin .max, args := #[x, y], argTypes := ts }) ty (.int k (if m < n then n else m)) := fun d pos af g => by
  simp [execOp, resolve, invoke, builtin, hx, hy, Builtin.max_, Builtin.max2]
theorem nmem {b x : Nat} {R : List Nat} (h : b ∉ R) (hx : x ∈ R) : b ≠ x := fun e => h (e ▸ hx)
/-! ### a range over a string -/
def It (w : World) (b : Nat) (s : List UInt8) (pos : Nat) : Prop := w.heap[b]? = some (.stringIter ⟨s.toArray⟩ pos)
def asc (s : List UInt8) (i : Nat) : Option Int := (s[i]?).bind fun b => if b.toNat < 128 then some (b.toNat : Int) else none
section
variable {w w' : World} {b b' pos : Nat} {s : List UInt8} {S L : List Nat}
theorem It.lt (h : It w b s pos) : b < w.heap.size := (Array.getElem?_eq_some_iff.1 h).1
theorem It.g (h : It w b s pos) (k : G S w w') (hn : b ∉ S) : It w' b s pos := (k.old b h.lt hn).trans h
theorem It.g0 (h : It w b s pos) (k : G [] w w') : It w' b s pos := h.g k (by simp)
theorem It.g1 (h : It w b s pos) (k : G [b'] w w') (hn : b ≠ b') : It w' b s pos := h.g k (by simpa using hn)
theorem It.ne (m : It w b s pos) {b' : Nat} (h : b' = w.heap.size) : b ≠ b' := by have := m.lt; omega
theorem It.no {B : List Nat} (m : It w b s pos) (hn : b ∉ B) {u' : Value} (f : ∀ x ∈ ownB u', x ∈ B ∨ w.heap.size ≤ x) : b ∉ ownB u' := fun hm => by
  rcases f b hm with h | h
  · exact hn h
  · have := m.lt; omega
theorem Cx.alI {w0 : World} (c : Cx S w0 L w) (g : G [] w w') (m : It w' b s pos) : Cx S w0 (b :: L) w' := ⟨c.g.tr0 g, fun i hi => by
  rcases List.mem_cons.1 hi with rfl | h; exact m.lt; exact Nat.lt_of_lt_of_le (c.lt i h) g.sz⟩
end
section ops
variable {P : Program} {Q : Exit → Act → World → Prop} {KK : Act → World → Prop} {gd : Option (Nat × Bool)} {a : Act} {w : World} {N d b pos : Nat} {ps : String} {af : Array Edge} {x y : Operand} {T ty E : TypeId} {s : List UInt8}
theorem oRng (hT : P.underlying T = some .string) (z : Z N a) (hx : a.eval x = .string ⟨s.toArray⟩) (hd : Nat.ble (d + 1) N = true)
    (k : ∀ a' w' b, Pt N a d (ptr b 0) a' → a'.eval (.tmp d) = ptr b 0 → It w' b s 0 → G [] w w' → b = w.heap.size → KK a' w') : Oper.wp P ⟨some d, .range T x, ty, ps, af, gd⟩ a w KK Q := by
  unfold Oper.wp
  have e : (execOp a.eval ⟨some d, .range T x, ty, ps, af, gd⟩).run P w = .ok (.value (ptr w.heap.size 0)) (w.alloc (.stringIter ⟨s.toArray⟩ 0)) := by
    simp [execOp, hx, Instr.range, run_underlying hT]
  rw [e]
  exact k _ _ _ (Pt.mk' z hd) (Pt.mk' z hd).n (by show (w.heap.push _)[w.heap.size]? = _; simp) (alloc_g _) rfl
theorem it_set (m : It w b s pos) (p : Nat) : It { w with heap := w.heap.setIfInBounds b (.stringIter ⟨s.toArray⟩ p) } b s p ∧ G [b] w { w with heap := w.heap.setIfInBounds b (.stringIter ⟨s.toArray⟩ p) } := by
  have hlt := m.lt
  refine ⟨?_, ⟨rfl, rfl, rfl, by simp, fun i _ hn => ?_⟩⟩
  · unfold It; simp [hlt]
  · simp only [List.mem_singleton] at hn
    simp [Array.getElem?_setIfInBounds, Ne.symm hn]
theorem oNext {c : Int} (z : Z N a) (hx : a.eval x = ptr b 0) (m : It w b s pos) (hc : asc s pos = some c) (hd : Nat.ble (d + 1) N = true)
    (k : ∀ a' w', Pt N a d (.tuple #[.bool true, .int .i64 (pos : Int), .int .i32 c]) a' → a'.eval (.tmp d) = .tuple #[.bool true, .int .i64 (pos : Int), .int .i32 c] → It w' b s (pos + 1) → G [b] w w' → KK a' w') : Oper.wp P ⟨some d, .next x true, ty, ps, af, gd⟩ a w KK Q := by
  unfold asc at hc
  obtain ⟨u, hu, h2⟩ := Option.bind_eq_some_iff.1 hc
  split at h2
  case isFalse => cases h2
  rename_i ha
  obtain rfl := Option.some.inj h2
  have hlt : pos < s.length := (List.getElem?_eq_some_iff.1 hu).1
  have hlt2 : pos < (⟨s.toArray⟩ : ByteArray).size := by simpa [ByteArray.size] using hlt
  have hb : (⟨s.toArray⟩ : ByteArray)[pos]'hlt2 = u := by
    have := ba_get s pos
    rw [getElem?_pos (⟨s.toArray⟩ : ByteArray) pos hlt2, hu] at this
    exact Option.some.inj this
  have hdec := decode_ascii ⟨s.toArray⟩ pos hlt2 (by rw [hb]; exact ha)
  rw [hb] at hdec
  obtain ⟨m', g'⟩ := it_set m (pos + 1)
  have mm : w.heap[b]? = some (.stringIter ⟨s.toArray⟩ pos) := m
  have e : (execOp a.eval ⟨some d, .next x true, ty, ps, af, gd⟩).run P w = .ok (.value (.tuple #[.bool true, .int .i64 (pos : Int), .int .i32 (u.toNat : Int)])) { w with heap := w.heap.setIfInBounds b (.stringIter ⟨s.toArray⟩ (pos + 1)) } := by
    simp [execOp, hx, ptr, Instr.next, getObj, setObj, Sem.run, mm, hlt2, hdec, goInt, Result.andThen]
  unfold Oper.wp
  rw [e]
  exact k _ _ (Pt.mk' z hd) (Pt.mk' z hd).n m' g'
theorem oNextE (z : Z N a) (hx : a.eval x = ptr b 0) (m : It w b s pos) (hc : ¬ pos < s.length) (hd : Nat.ble (d + 1) N = true)
    (k : ∀ a', Pt N a d (.tuple #[.bool false]) a' → a'.eval (.tmp d) = .tuple #[.bool false] → KK a' w) : Oper.wp P ⟨some d, .next x true, ty, ps, af, gd⟩ a w KK Q := by
  have hlt2 : ¬ pos < (⟨s.toArray⟩ : ByteArray).size := by simpa [ByteArray.size] using hc
  have mm : w.heap[b]? = some (.stringIter ⟨s.toArray⟩ pos) := m
  have e : (execOp a.eval ⟨some d, .next x true, ty, ps, af, gd⟩).run P w = .ok (.value (.tuple #[.bool false])) w := by
    simp [execOp, hx, ptr, Instr.next, getObj, Sem.run, mm, hlt2, Result.andThen]
  unfold Oper.wp
  rw [e]
  exact k _ (Pt.mk' z hd) (Pt.mk' z hd).n
/-! ### an array, as a slice; a copy into it -/
theorem okASl {n o : Nat} (hT : P.underlying T = some (.array n E)) (hE : ∀ w, (sizeOf E).run P w = .ok 1 w) (hx : a.eval x = ptr b o) : ∀ w0, Ok P a w0 (.slice T x none none none) ty (.slice (some ⟨b, o, none⟩) n n) := fun w0 d pos af g => by
  simp [execOp, hx, ptr, Instr.sliceAt, Instr.sureAddr, Instr.slice, Instr.sliceBounds, run_underlying hT, hE, Addr.add]
theorem oCpA {k : IntKind} {K2 : List Nat} {v : Value} {xs : List Int} {l l' : List Value} {n o Tb : Nat} {T1 T2 : TypeId} (hT : P.underlying T1 = some (.slice E)) (hE : ∀ w, (sizeOf E).run P w = .ok 1 w) (z : Z N a) (hx : a.eval x = .slice (some ⟨b, o, none⟩) n n) (hy : a.eval y = v) (hr : Src (KInt k) K2 w v xs) (m : Bk w b l Tb) (hn : Nat.ble (o + n) l.length = true) (hl : put l o ((xs.take n).map (.int k)) = l') (hd : Nat.ble (d + 1) N = true)
    (kk : ∀ a' w', Pt N a d (.int .i64 (min xs.length n : Nat)) a' → a'.eval (.tmp d) = .int .i64 (min xs.length n : Nat) → Bk w' b l' Tb → G [b] w w' → KK a' w') : Oper.wp P ⟨some d, .call { callee := .builtin .copy, args := #[x, y], argTypes := #[T1, T2] }, ty, ps, af, gd⟩ a w KK Q := by
  subst hl
  have hn := Nat.le_of_ble_eq_true hn
  obtain ⟨A, c, rfl, CS, hl, hR, hA⟩ := hr
  have hf := int_flat hl hR
  have hfc : (Builtin.firstCells 1 (min xs.length n) (.slice A xs.length c)).run P w = .ok ((xs.take n).map (.int k)).toArray w := by
    have et : ((xs.take n).map (Value.int k)).length = min xs.length n * 1 := by simp [Nat.min_comm]
    rcases hA with ⟨rfl, rfl, rfl⟩ | ⟨ad, rfl, hc⟩
    · simp [Builtin.firstCells]
    · refine run_firstCells_some (P := P) w 1 (min xs.length n) ad xs.length c ((xs.take n).map (.int k)) et (fun j u hu => ?_)
      rw [hf] at hc
      rw [List.map_take, List.getElem?_take] at hu
      split at hu
      · exact hc j u hu
      · cases hu
  obtain ⟨w', hs, m', g', _⟩ := stoA (P := P) (b := b) (o := o) ((xs.take n).map (.int k)) w l 0 m (by simp; omega) (fun u hu => by
    simp only [List.mem_map] at hu
    obtain ⟨q, _, rfl⟩ := hu; rfl)
  have hs2 : (storeCells ⟨b, o, none⟩ (List.take n (List.map (Value.int k) xs))).run P w = .ok () w' := by rw [← List.map_take]; exact hs
  have e : (execOp a.eval ⟨some d, .call { callee := .builtin .copy, args := #[x, y], argTypes := #[T1, T2] }, ty, ps, af, gd⟩).run P w = .ok (.value (.int .i64 (min xs.length n : Nat))) w' := by
    have hmin : Nat.min xs.length n = min xs.length n := rfl
    simp [execOp, resolve, invoke, builtin, hx, hy, Builtin.copy_, run_underlying hT, Builtin.lenOf, hE, hmin, hfc, hs2, goInt]
  unfold Oper.wp
  rw [e]
  refine kk _ _ (Pt.mk' z hd) (Pt.mk' z hd).n (by simpa using m') g'
/-- a call of a function value that is known and has caught nothing -/
theorem oCallC {f : FuncId} {args : Array Operand} {ts : Array TypeId} {as : Array Value} {R : Value → World → Prop} (z : Z N a) (hx : a.eval x = .func (.func f) #[] #[]) (he : Enter P f) (ha : args.map a.eval = as) (hc : Calls P f as w (fun e w' => ∃ v, e = .returned v ∧ R v w')) (hd : Nat.ble (d + 1) N = true)
    (k : ∀ v a' w', R v w' → Pt N a d v a' → a'.eval (.tmp d) = v → KK a' w') : Oper.wp P ⟨some d, .call { callee := .value x, args := args, argTypes := ts }, ty, ps, af, gd⟩ a w KK Q :=
  oCallV z hx he ha (by rw [Array.append_empty]; exact hc) hd k
end ops
end Go.Proofs.YtbfndihcbogjfaaDoor.Gx
