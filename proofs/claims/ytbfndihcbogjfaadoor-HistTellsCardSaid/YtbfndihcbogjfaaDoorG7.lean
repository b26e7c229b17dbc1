/-
  Plain theorems, over any program: writing into rows of the call's own; clear; make. Conditions: none.
-/
import Derived.Test.YtbfndihcbogjfaaDoorG6
namespace Go.Proofs.YtbfndihcbogjfaaDoor.Gx
open Go Go.RowKit
section
variable {P : Program} {w w' : World} {α : Type} {K : Kd α} {L L' : List Nat} {xs ys zs : List α} {v u : Value} {T E ty bytes b o : Nat}

theorem put_take (l vs : List Value) (o m : Nat) : (put l o vs).take m = put (l.take m) o vs := by
  induction vs generalizing l o with
  | nil => rfl
  | cons v vs ih => simp only [put, ih, List.take_set]
theorem set_flat {C : List (List Value)} {n i j : Nat} {cs : List Value} (hn : ∀ c ∈ C, c.length = n) (hc : C[i]? = some cs) (hj : j < n) (u : Value) : C.flatten.set (i * n + j) u = (C.set i (cs.set j u)).flatten := by
  induction C generalizing i with
  | nil => simp at hc
  | cons d C ih =>
    have hd : d.length = n := hn d (by simp)
    cases i with
    | zero =>
      simp only [List.getElem?_cons_zero, Option.some.injEq] at hc; subst hc
      rw [List.flatten_cons, List.set_append_left _ _ (by omega)]; simp
    | succ i =>
      rw [List.flatten_cons, List.set_append_right _ _ (by rw [hd, Nat.add_mul]; omega), hd]
      have : (i + 1) * n + j - n = i * n + j := by rw [Nat.add_mul]; omega
      rw [this, ih (fun c h => hn c (by simp [h])) (by simpa using hc)]
      simp
theorem put_flat {C : List (List Value)} {n i j : Nat} {cs vs : List Value} (hn : ∀ c ∈ C, c.length = n) (hc : C[i]? = some cs) (hj : j + vs.length ≤ n) : put C.flatten (i * n + j) vs = (C.set i (put cs j vs)).flatten := by
  induction vs generalizing C j cs with
  | nil =>
    have hi := (List.getElem?_eq_some_iff.1 hc).1
    have : C.set i cs = C := by
      apply List.ext_getElem?
      intro k
      rw [List.getElem?_set]
      split
      · rename_i h; subst h; rw [hc]
      · rfl
    simp only [put, this]
  | cons u vs ih =>
    simp only [List.length_cons] at hj
    have hi := (List.getElem?_eq_some_iff.1 hc).1
    have hcl := hn cs (List.mem_of_getElem? hc)
    simp only [put]
    rw [set_flat hn hc (by omega) u, Nat.add_assoc]
    rw [ih (C := C.set i (cs.set j u)) (cs := cs.set j u) (fun c h => ?_) (by rw [List.getElem?_set, if_pos rfl, if_pos hi]) (by omega)]
    · rw [List.set_set]
    · rcases List.mem_or_eq_of_mem_set h with h | h
      · exact hn c h
      · subst h; simpa using hcl
theorem own_cells {C C' : List (List Value)} {n sz : Nat} {vs : List Value} (how : w.ownsRow 0 E sz v n C.flatten) (hb : ownB v = [b]) (hput : put C.flatten o vs = C'.flatten) (ho : o + vs.length ≤ n * sz) (h1 : ∀ u ∈ vs, u.oneCell' = true) :
    ∃ w', (storeCells ⟨b, o, none⟩ vs).run P w = .ok () w' ∧ w'.ownsRow 0 E sz v n C'.flatten ∧ G [b] w w' := by
  rcases how.2 with ⟨rfl, h0⟩ | ⟨g, cap, cur, rfl, hb0, hg, hn, hm, hs, ht⟩
  · simp [ownB] at hb
  · have e : g = b := by simpa [ownB] using hb
    subst e
    have hsz : n * sz ≤ cap * sz := Nat.mul_le_mul_right _ hn
    have mb : Bk w g cur.toList E := by
      show w.heap[g]? = _
      rw [hg]
    obtain ⟨w', hr, hm', hg', _⟩ := stoA (P := P) (b := g) (o := o) vs w cur.toList 0 mb (by
      have e : cur.toList.length = cap * sz := by rw [Array.length_toList, hs]
      have e2 : (⟨vs⟩ : Array Value).size = vs.length := rfl
      omega) h1
    refine ⟨w', hr, ⟨?_, .inr ⟨g, cap, (put cur.toList (o + 0) vs).toArray, rfl, hb0, hm', hn, hm, ?_, ?_⟩⟩, hg'⟩
    · rw [← hput, put_length]; exact how.1
    · simp [put_length, hs]
    · rw [List.toList_toArray, put_take, ht, Nat.add_zero, hput]
theorem cl_eq {c cs : List Value} (h1 : Cl w b o c) (h2 : Cl w b o cs) (hl : c.length = cs.length) : c = cs := by
  apply List.ext_getElem hl
  intro i h3 h4
  have a := h1 i _ (List.getElem?_eq_getElem h3)
  have b := h2 i _ (List.getElem?_eq_getElem h4)
  rw [a] at b; exact Option.some.inj b
theorem OwnS.put {C' : List (List Value)} (h : OwnS K E L w v xs) {n : Nat} (hn : n = xs.length) (ho : w'.ownsRow 0 E K.sz v n C'.flatten) (g : G [b] w w') (hb : ownB v = [b]) (hL : ∀ b ∈ ownB v, b ∈ L) (h1 : C'.length = ys.length) (he : ys.length = xs.length) (h2 : ∀ (i : Nat) (c : List Value) (x : α), C'[i]? = some c → ys[i]? = some x → K.R L w c x) : OwnS K E L w' v ys := by
  subst hn
  have t : Tr L w L w' := g.t (fun x hx => hL x (by rw [hb]; exact hx))
  exact ⟨C', by rw [he]; exact ho, h1, fun i c x a b => K.mono t (h2 i c x a b)⟩
/-- words of an element -/
theorem OwnS.sto {i : Int} {e e' : α} {j : Nat} {cs cs' vs : List Value} (h : OwnS K E L w v xs) (he : ix xs i = some e) (hb : ownB v = [b]) (hcl : Cl w b (i.toNat * K.sz) cs) (hL : ∀ b ∈ ownB v, b ∈ L) (hl : cs.length = K.sz) (hj : j + vs.length ≤ K.sz) (hp : Gx.put cs j vs = cs') (hR : K.R L w cs' e') (h1 : ∀ u ∈ vs, u.oneCell' = true) :
    ∃ w', (storeCells ⟨b, i.toNat * K.sz + j, none⟩ vs).run P w = .ok () w' ∧ OwnS K E L w' v (xs.set i.toNat e') ∧ G [b] w w' := by
  subst hp
  obtain ⟨C, ho, hc1, hc2⟩ := id h
  have hlen := OwnS.lens hc1 hc2
  unfold ix at he
  split at he
  case isFalse => cases he
  have hi : i.toNat < xs.length := (List.getElem?_eq_some_iff.1 he).1
  have hc : C[i.toNat]? = some C[i.toNat] := List.getElem?_eq_getElem (by omega)
  have hcs : C[i.toNat] = cs := by
    refine cl_eq (w := w) (b := b) (o := i.toNat * K.sz) (fun q u hu => ?_) hcl ?_
    · have hq : q < K.sz := by
        have := (List.getElem?_eq_some_iff.1 hu).1
        rwa [hlen _ (List.mem_of_getElem? hc)] at this
      have e := flatten_at hlen hc hq
      rcases ho.2 with ⟨rfl, _⟩ | ⟨g, cap, cur, rfl, hb0, hg, hn, hm, hs, ht⟩
      · simp [ownB] at hb
      · have eg : g = b := by simpa [ownB] using hb
        subst eg
        have := World.ownsRow.cells (g := g) (⟨ho.1, .inr ⟨g, cap, cur, rfl, hb0, hg, hn, hm, hs, ht⟩⟩ : w.ownsRow 0 E K.sz _ _ _) rfl _ _ (e.trans hu)
        rwa [add_eq, Nat.zero_add] at this
    · rw [hl]; exact hlen _ (List.mem_of_getElem? hc)
  rw [hcs] at hc
  have hb2 : i.toNat * K.sz + K.sz ≤ xs.length * K.sz := by
    calc _ = (i.toNat + 1) * K.sz := by rw [Nat.add_mul]; omega
      _ ≤ _ := Nat.mul_le_mul_right _ hi
  obtain ⟨w', hr, how', g⟩ := own_cells (P := P) ho hb (put_flat (vs := vs) hlen hc hj) (by omega) h1
  refine ⟨w', hr, h.put rfl how' g hb hL (by simp [hc1]) (by simp) (fun q c x h3 h4 => ?_), g⟩
  rw [List.getElem?_set] at h3 h4
  by_cases hq : i.toNat = q
  · subst hq
    rw [if_pos rfl, if_pos (by omega)] at h3 h4
    obtain rfl := Option.some.inj h3
    obtain rfl := Option.some.inj h4
    exact hR
  · rw [if_neg hq] at h3 h4
    exact hc2 q c x h3 h4

/-- the end of a row, as a slice -/
def Tl (sz : Nat) (v v' : Value) (l n : Nat) : Prop := ∃ A c, v' = .slice A n c ∧ (n = 0 ∨ ∃ b, ownB v = [b] ∧ A = some ⟨b, l * sz, none⟩)
theorem OwnS.tl {lo hi : Option Operand} {l h : Int} (hr : OwnS K E L w v xs) (hs : Gx.slc xs l h = some zs) : ∃ v', Tl K.sz v v' l.toNat zs.length ∧
    ∀ {P : Program} {a : Act} {x : Operand} {T ty : TypeId}, P.underlying T = some (.slice E) → (∀ w, (sizeOf E).run P w = .ok K.sz w) → a.eval x = v →
      ((lo.map a.eval = none ∧ l = 0) ∨ ∃ k, lo.map a.eval = some (.int k l)) → ((hi.map a.eval = none ∧ h = xs.length) ∨ ∃ k, hi.map a.eval = some (.int k h)) → ∀ w', Ok P a w' (.slice T x lo hi none) ty v' := by
  obtain ⟨c1, c2, c3, hz, hg⟩ := slc_get hs
  have key : ∃ A cap, v = .slice A xs.length cap ∧ xs.length ≤ cap ∧ (xs.length = 0 ∨ ∃ g, A = some ⟨g, 0, none⟩) := by
    obtain ⟨C, ho, h1, h2⟩ := hr
    rcases ho.2 with ⟨rfl, h0⟩ | ⟨g, cap, cur, rfl, hb0, hgb, hn, hm, hss, ht⟩
    · exact ⟨none, 0, by rw [h0], by omega, .inl h0⟩
    · exact ⟨_, cap, rfl, hn, .inr ⟨g, rfl⟩⟩
  obtain ⟨A, cap, rfl, hcap, hA⟩ := key
  refine ⟨.slice (if cap = l.toNat then A else A.map (·.add (l.toNat * K.sz))) (h.toNat - l.toNat) (cap - l.toNat), ⟨_, _, by rw [hz], ?_⟩, fun hT hE hx hl hh w' d pos af gd => ?_⟩
  · rcases hA with h0 | ⟨g, rfl⟩
    · left; omega
    · by_cases h0 : zs.length = 0
      · exact .inl h0
      · refine .inr ⟨g, rfl, ?_⟩
        rw [if_neg (by omega)]
        simp [add_eq]
  · simp only [execOp, hx, Option.map_none]
    rw [Sem.run_bind, slice_run (P := _) (w := w') (A := A) hT hE hl hh ⟨c1, c2, c3⟩ hcap]
    rfl
theorem zeroCells_list {z : Array Value} {l : List Value} (hz : z = l.toArray) (hl : l ≠ []) (n : Nat) : (Builtin.zeroCells z n).toList = (List.replicate n l).flatten := by
  subst hz
  have hpos : 0 < l.length := List.length_pos_iff.2 hl
  apply List.ext_getElem?
  intro j
  have hf : ∀ c ∈ List.replicate n l, c.length = l.length := fun c hc => by rw [List.eq_of_mem_replicate hc]
  by_cases hj : j < n * l.length
  · have hq : j / l.length < n := Nat.div_lt_of_lt_mul (by rw [Nat.mul_comm]; exact hj)
    have h1 := flatten_at hf (i := j / l.length) (j := j % l.length) (c := l) (by simp [hq]) (Nat.mod_lt _ hpos)
    rw [Nat.mul_comm, Nat.div_add_mod] at h1
    rw [h1]
    have hm : j % l.length < l.length := Nat.mod_lt _ hpos
    simp [Builtin.zeroCells, hj, hm]
  · have e1 : ((List.replicate n l).flatten)[j]? = none := List.getElem?_eq_none (by rw [flatten_len hf]; simpa using hj)
    rw [e1]
    simp [Builtin.zeroCells, Nat.mul_comm]; omega
theorem slc_tl {l : Int} (hs : Gx.slc xs l xs.length = some zs) : l.toNat + zs.length = xs.length := by
  obtain ⟨c1, c2, c3, hz, hg⟩ := slc_get hs
  omega
theorem own_ne {b b' : Nat} (h : ownB v = [b']) (hn : b ∉ ownB v) : b' ≠ b := fun e => hn (by rw [h, e]; simp)
section ops
variable {Q : Exit → Act → World → Prop} {KK : Act → World → Prop} {gd : Option (Nat × Bool)} {a : Act} {N d : Nat} {pos : String} {af : Array Edge} {x y : Operand} {k : IntKind}
theorem oStoE {i : Int} {e e' : α} {j : Nat} {cs cs' vs : List Value} (z : Z N a) (hx : a.eval x = ptr b o) (hy : a.eval y = u) (h : OwnS K E L w v xs) (he : ix xs i = some e) (hb : ownB v = [b]) (hcl : Cl w b (i.toNat * K.sz) cs) (hL : ∀ b ∈ ownB v, b ∈ L) (ho : i.toNat * K.sz + j = o) (hT : ∀ w, (sizeOf T).run P w = .ok vs.length w) (hc : u.cells = vs.toArray) (h1 : ∀ u ∈ vs, u.oneCell' = true)
    (hl : cs.length = K.sz) (hj : Nat.ble (j + vs.length) K.sz = true) (hp : Gx.put cs j vs = cs') (hR : K.R L w cs' e')
    (k : ∀ w', OwnS K E L w' v (xs.set i.toNat e') → G (ownB v) w w' → KK a w') : Oper.wp P ⟨none, .store T x y, ty, pos, af, gd⟩ a w KK Q := by
  subst ho
  obtain ⟨w', hr, how, g⟩ := h.sto (P := P) he hb hcl hL hl (Nat.le_of_ble_eq_true hj) hp hR h1
  unfold Oper.wp
  simp only [execOp, Instr.storeAt, Instr.sureAddr, hx, hy, ptr, storeVar, Sem.run_bind, Sem.run_pure, Result.andThen_ok, hT, hc, List.size_toArray, ne_eq, not_true, if_false, hr]
  exact k _ how (by rw [hb]; exact g)
theorem oClear {v' : Value} {l n : Nat} {x0 : α} {zc : List Value} (hx : a.eval x = v') (h : OwnS K E L w v xs) (tl : Tl K.sz v v' l n) (hn : l + n = xs.length) (hL : ∀ b ∈ ownB v, b ∈ L) (hT : P.underlying T = some (.slice E)) (hz : ZV P E zc) (hR : ∀ w, K.R L w zc x0)
    (k : ∀ w', OwnS K E L w' v (xs.take l ++ List.replicate n x0) → G (ownB v) w w' → KK a w') : Oper.wp P ⟨none, .call { callee := .builtin .clear, args := #[x], argTypes := #[T] }, ty, pos, af, gd⟩ a w KK Q := by
  have hzl : zc.length = K.sz := K.len (hR w)
  have hpos := K.pos
  obtain ⟨A, c, rfl, hA⟩ := tl
  obtain ⟨zv, hz1, hz2⟩ := hz
  by_cases h0 : n = 0
  · subst h0
    have e : (execOp a.eval ⟨none, .call { callee := .builtin .clear, args := #[x], argTypes := #[T] }, ty, pos, af, gd⟩).run P w = .ok (.value (.tuple #[])) w := by
      cases A <;> simp [execOp, resolve, invoke, builtin, hx, Builtin.clear_, run_underlying hT]
    unfold Oper.wp
    rw [e]
    refine k w ?_ (G.refl _ _)
    simp only [List.replicate_zero, List.append_nil]
    rw [List.take_of_length_le (by omega)]; exact h
  · rcases hA with hA | ⟨b, hb, rfl⟩
    · exact absurd hA h0
    obtain ⟨C, ho, hc1, hc2⟩ := id h
    have hlen := OwnS.lens hc1 hc2
    have hzn : zc ≠ [] := fun e => by subst e; simp at hzl; omega
    have hcs := zeroCells_list (z := zv.cells) hz2 hzn n
    have hrl : ∀ c ∈ List.replicate n zc, c.length = K.sz := fun c hc => by rw [List.eq_of_mem_replicate hc]; exact hzl
    have htl : ∀ c ∈ C.take l, c.length = K.sz := fun c hc => hlen c (List.mem_of_mem_take hc)
    have hdl : ∀ c ∈ C.drop l, c.length = K.sz := fun c hc => hlen c (List.mem_of_mem_drop hc)
    have e1 : (C.take l).flatten.length = l * K.sz := by rw [flatten_len htl, List.length_take, hc1]; congr 1; omega
    have hput : Gx.put C.flatten (l * K.sz) (List.replicate n zc).flatten = (C.take l ++ List.replicate n zc).flatten := by
      rw [List.flatten_append, ← e1]
      conv => lhs; arg 1; rw [← List.take_append_drop l C, List.flatten_append]
      apply put_app
      rw [flatten_len hrl, flatten_len hdl, List.length_replicate, List.length_drop, hc1]
      congr 1; omega
    have hsz : l * K.sz + (List.replicate n zc).flatten.length ≤ xs.length * K.sz := by
      rw [flatten_len hrl, List.length_replicate, ← Nat.add_mul]
      exact Nat.mul_le_mul_right _ (by omega)
    obtain ⟨w', hr, how', g⟩ := own_cells (P := P) ho hb hput hsz (fun u hu => by
      obtain ⟨c, hc, hu⟩ := List.mem_flatten.1 hu
      rw [List.eq_of_mem_replicate hc] at hu
      exact K.one (hR w) u hu)
    have e : (execOp a.eval ⟨none, .call { callee := .builtin .clear, args := #[x], argTypes := #[T] }, ty, pos, af, gd⟩).run P w = .ok (.value (.tuple #[])) w' := by
      obtain ⟨m, rfl⟩ : ∃ m, n = m + 1 := ⟨n - 1, by omega⟩
      simp [execOp, resolve, invoke, builtin, hx, Builtin.clear_, run_underlying hT, hz1, hcs, hr]
    unfold Oper.wp
    rw [e]
    refine k w' (h.put rfl how' g hb hL (by simp [hc1]) (by simp; omega) (fun q c x h3 h4 => ?_)) (by rw [hb]; exact g)
    by_cases hq : q < l
    · rw [List.getElem?_append_left (by simp; omega), List.getElem?_take_of_lt hq] at h3
      rw [List.getElem?_append_left (by simp; omega), List.getElem?_take_of_lt hq] at h4
      exact hc2 q c x h3 h4
    · rw [List.getElem?_append_right (by simp; omega)] at h3 h4
      have h3' := List.eq_of_mem_replicate (List.mem_of_getElem? h3)
      have h4' := List.eq_of_mem_replicate (List.mem_of_getElem? h4)
      subst h3' h4'
      exact hR w
end ops
end
end Go.Proofs.YtbfndihcbogjfaaDoor.Gx
