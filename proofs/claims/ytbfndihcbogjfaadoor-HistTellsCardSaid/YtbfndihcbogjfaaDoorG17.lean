/-
  Plain theorems, over any program: a row of rows, all of them the call's own. Conditions: as said.
-/
import Derived.Test.YtbfndihcbogjfaaDoorG16
namespace Go.Proofs.YtbfndihcbogjfaaDoor.Gx
open Go Go.RowKit
/-- A row of rows: all its blocks stand at B or behind; K: the kind of the inner elements (which leads to no memory), E their type, T2 the rows' type. -/
def OO {α : Type} (K : Kd α) (E T2 B : Nat) (w : World) (v : Value) (xss : List (List α)) : Prop :=
  ∃ bo, ∃ hs : List Value, v = .slice (some ⟨bo, 0, none⟩) xss.length xss.length ∧ B ≤ bo ∧ Bk w bo hs T2 ∧ hs.length = xss.length ∧ xss.length ≤ maxLen ∧
    (∀ (i : Nat) (h : Value) (xs : List α), hs[i]? = some h → xss[i]? = some xs → OwnS K E [] w h xs ∧ ∀ x ∈ ownB h, B ≤ x ∧ x ≠ bo) ∧
    (∀ (i j : Nat) (h h' : Value), i ≠ j → hs[i]? = some h → hs[j]? = some h' → ∀ x ∈ ownB h, x ∉ ownB h')
section
variable {P : Program} {α : Type} {K : Kd α} {E T2 B b : Nat} {w w1 w' : World} {v : Value} {xss : List (List α)} {xs : List α} {i : Int}
theorem OO.g0 (h : OO K E T2 B w v xss) (g : G [] w w') : OO K E T2 B w' v xss := by
  obtain ⟨bo, hs, e, hB, m, hl, hm, hi, hd⟩ := h
  exact ⟨bo, hs, e, hB, m.g0 g, hl, hm, fun i h xs a b => ⟨(hi i h xs a b).1.t0 g.t0 g, (hi i h xs a b).2⟩, hd⟩
theorem nil_cells : Value.cells (.slice none 0 0) = #[.slice none 0 0] := rfl
theorem oMkO {Q : Exit → Act → World → Prop} {KK : Act → World → Prop} {gd : Option (Nat × Bool)} {a : Act} {N d : Nat} {pos : String} {af : Array Edge} {x y : Operand} {k k2 : IntKind} {T ty bytes : Nat} {n : Int}
    (hT : P.underlying T = some (.slice T2)) (ti : TI P T2 1 bytes) (hb : Nat.ble bytes 256 = true) (hz : ZV P T2 [.slice none 0 0]) (z : Z N a) (hx : a.eval x = .int k n) (hy : a.eval y = .int k2 n) (hm : mk n ([] : List α) = some xss) (hB : B ≤ w.heap.size) (hd : Nat.ble (d + 1) N = true)
    (kk : ∀ a' v' w', Pt N a d v' a' → a'.eval (.tmp d) = v' → OO K E T2 B w' v' xss → G [] w w' → KK a' w') : Oper.wp P ⟨some d, .makeSlice T x y, ty, pos, af, gd⟩ a w KK Q := by
  have hb := Nat.le_of_ble_eq_true hb
  unfold mk at hm
  split at hm
  case isFalse => cases hm
  rename_i hn
  obtain rfl := Option.some.inj hm
  obtain ⟨i, zv, hi, hz', rfl', rfl, hzs⟩ := ti
  have hzc := zr hi hz' hz
  have hlim : n ≤ 549755813888 := by have := hn.2; unfold lim at this; omega
  have hbytes : (i.bytes : Int) * n ≤ 281474976710656 := by
    have h1 : (i.bytes : Int) ≤ 256 := by omega
    calc (i.bytes : Int) * n ≤ 256 * n := Int.mul_le_mul_of_nonneg_right h1 hn.1
      _ ≤ 256 * 549755813888 := by omega
      _ ≤ _ := by omega
  have hr := run_make (P := P) w T T2 i zv hT hi hz' k k2 n n hn.1 (Int.le_refl _) hbytes (by omega)
  have hcs : madeCells zv.cells (n.toNat * i.size) = (List.replicate n.toNat (Value.slice none 0 0)).toArray := by
    have e1 : madeCells zv.cells (n.toNat * i.size) = Builtin.zeroCells zv.cells n.toNat := by
      unfold madeCells Builtin.zeroCells
      rw [hzs, rfl']
    rw [e1]
    apply Array.ext'
    rw [zeroCells_list hzc (by simp)]
    simp
  rw [hcs] at hr
  unfold Oper.wp
  have e : (execOp a.eval ⟨some d, .makeSlice T x y, ty, pos, af, gd⟩).run P w = .ok (.value (.slice (some ⟨w.heap.size, 0, none⟩) n.toNat n.toNat)) (w.alloc (.cells (List.replicate n.toNat (Value.slice none 0 0)).toArray T2)) := by
    simp only [execOp, hx, hy, Sem.run_bind, hr, Result.andThen_ok, Sem.run_pure]
  rw [e]
  refine kk _ _ _ (Pt.mk' z hd) (Pt.mk' z hd).n ⟨w.heap.size, List.replicate n.toNat (.slice none 0 0), by simp, hB, alloc_bk, by simp, by simp only [List.length_replicate]; unfold maxLen; omega, fun i h xs a b => ?_, fun i j h h' _ a b => ?_⟩ (alloc_g _)
  · have a := List.eq_of_mem_replicate (List.mem_of_getElem? a)
    have b := List.eq_of_mem_replicate (List.mem_of_getElem? b)
    subst a b
    exact ⟨OwnS.nil, fun x h => nilO h⟩
  · have a := List.eq_of_mem_replicate (List.mem_of_getElem? a)
    subst a
    exact fun x h => nilO h
/-- one of the rows is taken out, and another one laid in its place -/
theorem OO.opn (hflat : ∀ (L L' : List Nat) (w w' : World) (cs : List Value) (x : α), K.R L w cs x → K.R L' w' cs x) (h : OO K E T2 B w1 v xss) (hi : ix xss i = some xs) : ∃ bo, ∃ hs : List Value, ∃ hv : Value, v = .slice (some ⟨bo, 0, none⟩) xss.length xss.length ∧ Bk w1 bo hs T2 ∧ hs[i.toNat]? = some hv ∧ OwnS K E [] w1 hv xs ∧ bo ∉ ownB hv ∧ B ≤ bo ∧ (∀ x ∈ ownB hv, B ≤ x) ∧
    ∀ {w w' : World} {v' : Value} {xs' : List α}, G [] w1 w → (∀ x, x < w.heap.size → x ∉ ownB hv → x ≠ bo → w1.heap.size ≤ x ∨ w'.heap[x]? = w.heap[x]?) → w.heap.size ≤ w'.heap.size → Bk w' bo (hs.set i.toNat v') T2 → OwnS K E [] w' v' xs' → (∀ x ∈ ownB v', x ∈ ownB hv ∨ w.heap.size ≤ x) → OO K E T2 B w' v (xss.set i.toNat xs') := by
  obtain ⟨bo, hs, e, hB, m, hl, hm, hI, hd⟩ := h
  unfold ix at hi
  split at hi
  case isFalse => cases hi
  rename_i h0
  have hlt : i.toNat < xss.length := (List.getElem?_eq_some_iff.1 hi).1
  have hg : hs[i.toNat]? = some hs[i.toNat] := List.getElem?_eq_getElem (by omega)
  obtain ⟨q, hq⟩ := hI _ _ _ hg hi
  refine ⟨bo, hs, hs[i.toNat], e, m, hg, q, fun hb => (hq bo hb).2 rfl, hB, fun x hx => (hq x hx).1, fun {w w' v' xs'} g hun hsz m' q' hf => ?_⟩
  have hbl := m.lt
  refine ⟨bo, hs.set i.toNat v', by rw [List.length_set]; exact e, hB, m', by simp [hl], by rw [List.length_set]; exact hm, fun j h ys a b => ?_, fun j k h h' hjk a b => ?_⟩
  · rw [List.getElem?_set] at a b
    by_cases hj : i.toNat = j
    · subst hj
      rw [if_pos rfl, if_pos (by omega)] at a b
      obtain rfl := Option.some.inj a
      obtain rfl := Option.some.inj b
      refine ⟨q', fun x hx => ?_⟩
      rcases hf x hx with h1 | h1
      · exact hq x h1
      · have := g.sz
        have hbB : B ≤ w.heap.size := by omega
        exact ⟨by omega, by omega⟩
    · rw [if_neg hj] at a b
      obtain ⟨q2, hq2⟩ := hI j h ys a b
      have hlt2 := q2.lt
      refine ⟨?_, hq2⟩
      have q3 := q2.t0 g.t0 g
      -- the row stands as it stood
      obtain ⟨C, ho, h1, h2⟩ := q3
      refine ⟨C, ⟨ho.1, ?_⟩, h1, fun i c x a b => hflat _ _ _ _ _ _ (h2 i c x a b)⟩
      · rcases ho.2 with h3 | ⟨gb, cap, cur, rfl, hb0, hgg, r⟩
        · exact .inl h3
        · have hx : gb ∈ ownB (.slice (some ⟨gb, 0, none⟩) ys.length cap) := by simp [ownB]
          refine .inr ⟨gb, cap, cur, rfl, hb0, ?_, r⟩
          have hne : gb ∉ ownB hs[i.toNat] := fun h => hd _ _ _ _ (fun e => hj e.symm) a hg gb hx h
          rcases hun gb (Nat.lt_of_lt_of_le (hlt2 gb hx) g.sz) hne (hq2 gb hx).2 with h | h
          · have := hlt2 gb hx; omega
          · rw [h]; exact hgg
  · rw [List.getElem?_set] at a b
    by_cases hj : i.toNat = j
    · subst hj
      rw [if_pos rfl, if_pos (by omega)] at a
      obtain rfl := Option.some.inj a
      rw [if_neg hjk] at b
      intro x hx hx2
      have hk : k < xss.length := by have := (List.getElem?_eq_some_iff.1 b).1; omega
      have hq2 := (hI k h' xss[k] b (List.getElem?_eq_getElem hk)).1.lt x hx2
      rcases hf x hx with h1 | h1
      · exact hd _ _ _ _ hjk hg b x h1 hx2
      · have := g.sz; omega
    · rw [if_neg hj] at a
      by_cases hk : i.toNat = k
      · subst hk
        rw [if_pos rfl, if_pos (by omega)] at b
        obtain rfl := Option.some.inj b
        intro x hx hx2
        have hj2 : j < xss.length := by have := (List.getElem?_eq_some_iff.1 a).1; omega
        have hq2 := (hI j h xss[j] a (List.getElem?_eq_getElem hj2)).1.lt x hx
        rcases hf x hx2 with h1 | h1
        · exact hd _ _ _ _ (Ne.symm hjk) hg a x h1 hx
        · have := g.sz; omega
      · rw [if_neg hk] at b
        exact hd j k h h' hjk a b
theorem OO.rd {L : List Nat} (hf : ∀ (L L' : List Nat) (w w' : World) (cs : List Value) (x : α), K.R L w cs x → K.R L' w' cs x) (h : OO K E T2 B w v xss) (hL : ∀ b ∈ L, b < B) : RdS (KSl K) L w v xss := by
  obtain ⟨bo, hs, e, hB, m, hl, hm, hI, hd⟩ := h
  refine ⟨_, _, e, Nat.le_refl _, hm, .inr ⟨bo, 0, fun i => [hs.getD i .nilIface], rfl, fun h => by have := hL bo h; omega, fun i x hx => ?_⟩⟩
  have hi : i < xss.length := (List.getElem?_eq_some_iff.1 hx).1
  have hg : hs[i]? = some hs[i] := List.getElem?_eq_getElem (by omega)
  have he : hs.getD i .nilIface = hs[i] := by simp [hg]
  obtain ⟨q, hq⟩ := hI i _ _ hg hx
  show (KSl K).R L w [hs.getD i .nilIface] x ∧ Cl w bo (0 + i * (KSl K).sz) [hs.getD i .nilIface]
  rw [he]
  refine ⟨⟨_, rfl, (OwnS.flat (L' := L) hf q).rd (fun _ h => h) (fun b hb hl => by have := hL b hl; have := (hq b hb).1; omega)⟩, fun j u hu => ?_⟩
  cases j with
  | zero =>
    simp at hu; subst hu
    have := m.cl i _ hg
    simpa [KSl] using this
  | succ j => simp at hu
theorem Cl.no {w : World} {b o : Nat} {cs : List Value} {B : List Nat} (m : Cl w b o cs) (hc : cs ≠ []) (hn : b ∉ B) {u' : Value} (f : ∀ x ∈ ownB u', x ∈ B ∨ w.heap.size ≤ x) : b ∉ ownB u' := fun hm => by
  obtain ⟨a, l, rfl⟩ := List.exists_cons_of_ne_nil hc
  have := cell_lt (m 0 a rfl)
  rcases f b hm with h | h
  · exact hn h
  · omega
theorem RdS.cap {β : Type} {K : Kd β} {L : List Nat} {w w' : World} {v : Value} {ys : List β} (h : RdS K L w v ys) (g : G [] w w') : RdS K [] w' v ys :=
  (h.mono ((Tr.refl L w).sub (fun _ h => absurd h List.not_mem_nil) : Tr L w [] w)).mono (g.t0 : Tr [] w [] w')
theorem ix_lt {xs : List α} {y : α} (h : ix xs i = some y) : 0 ≤ i ∧ i < (xs.length : Int) := by
  unfold ix at h
  split at h
  case isFalse => cases h
  rename_i h0
  have := (List.getElem?_eq_some_iff.1 h).1
  omega
theorem G3 {S : List Nat} {o : Nat} {wa wb wc wd : World} (gA : G [] wa wb) (gB : G S wb wc) (gC : G [o] wc wd) : ∀ x, x < wa.heap.size → x ∉ S → x ≠ o → wd.heap[x]? = wa.heap[x]? := fun x hx hs ho => by
  have h1 := gA.sz
  have h2 := gB.sz
  rw [gC.old x (by omega) (by simpa using ho), gB.old x (by omega) hs, gA.old x hx (by simp)]
theorem okOIx {a : Act} {x y : Operand} {T ty bo n : Nat} {k : IntKind} (hT : P.underlying T = some (.slice T2)) (hE : ∀ w, (sizeOf T2).run P w = .ok 1 w) (hx : a.eval x = v) (hv : v = .slice (some ⟨bo, 0, none⟩) n n) (hy : a.eval y = .int k i) (h : 0 ≤ i ∧ i < (n : Int)) : ∀ w, Ok P a w (.indexAddr T x y) ty (ptr bo i.toNat) := fun w d pos af g => by
  subst hv
  simp only [execOp, Instr.indexAt, hx, hy, asIntOf, Sem.run_bind, Sem.run_pure, Result.andThen_ok, run_underlying hT, if_pos h, hE, Nat.mul_one, add_eq, Nat.zero_add]
end
end Go.Proofs.YtbfndihcbogjfaaDoor.Gx
