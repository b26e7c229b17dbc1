/-
  Plain theorems, over any program: rows of the call's own: append, elements, making, slicing. Conditions: none.
-/
import Derived.Test.YtbfndihcbogjfaaDoorG4
import Derived.Laws.OwnMore
import Derived.Laws.MakeOwn
import Derived.Laws.StructEq
namespace Go.Proofs.YtbfndihcbogjfaaDoor.Gx
open Go Go.RowKit

/-- what is known of an element's type -/
def TI (P : Program) (E size bytes : Nat) : Prop := ∃ i z, P.info? E = some i ∧ i.zero = some z ∧ i.size = size ∧ i.bytes = bytes ∧ z.cells.size = size

section
variable {P : Program} {w w' : World} {α : Type} {K : Kd α} {L L' : List Nat} {xs ys zs : List α} {v u : Value} {T E ty bytes : Nat}

/-- what a slice holds, as a source -/
def Src (K : Kd α) (L : List Nat) (w : World) (u : Value) (ys : List α) : Prop :=
  ∃ A c, u = .slice A ys.length c ∧ ∃ CS : List (List Value), CS.length = ys.length ∧ (∀ (i : Nat) (c : List Value) (x : α), CS[i]? = some c → ys[i]? = some x → K.R L w c x) ∧
    ((A = none ∧ c = 0 ∧ ys = []) ∨ ∃ ad, A = some ad ∧ ∀ (j : Nat) (u : Value), CS.flatten[j]? = some u → w.cell? (ad.add j) = some u)
theorem flatten_len {CS : List (List Value)} {n : Nat} (h : ∀ c ∈ CS, c.length = n) : CS.flatten.length = CS.length * n := by
  induction CS with
  | nil => simp
  | cons c CS ih => simp [ih (fun c hc => h c (by simp [hc])), h c (by simp), Nat.add_mul]; omega
theorem flatten_get {CS : List (List Value)} {n : Nat} (hn : 0 < n) (h : ∀ c ∈ CS, c.length = n) {j : Nat} {u : Value} (hu : CS.flatten[j]? = some u) : ∃ c, CS[j / n]? = some c ∧ c[j % n]? = some u := by
  have hlt : j < CS.length * n := by rw [← flatten_len h]; exact (List.getElem?_eq_some_iff.1 hu).1
  have hq : j / n < CS.length := Nat.div_lt_of_lt_mul (by rw [Nat.mul_comm]; exact hlt)
  have hc : CS[j / n]? = some CS[j / n] := List.getElem?_eq_getElem hq
  refine ⟨_, hc, ?_⟩
  have := flatten_at h hc (Nat.mod_lt j hn)
  rw [← this, ← hu]
  congr 1
  rw [Nat.mul_comm]; exact Nat.div_add_mod j n
theorem RdS.src (h : RdS K L w u ys) : Src K L w u ys := by
  obtain ⟨A, cap, rfl, h1, h2, h3⟩ := h
  rcases h3 with ⟨rfl, h0⟩ | ⟨b, off, C, rfl, hb, hC⟩
  · cases A with
    | none => exact ⟨none, cap, rfl, [], rfl, by simp, .inl ⟨rfl, h0 rfl, rfl⟩⟩
    | some ad => exact ⟨some ad, cap, rfl, [], rfl, by simp, .inr ⟨ad, rfl, by simp⟩⟩
  · refine ⟨_, cap, rfl, (List.range ys.length).map C, by simp, fun i c x hc hx => ?_, .inr ⟨_, rfl, fun j u hu => ?_⟩⟩
    · have hi := (List.getElem?_eq_some_iff.1 hx).1
      simp [hi] at hc; subst hc
      exact (hC i x hx).1
    · have hl : ∀ c ∈ (List.range ys.length).map C, c.length = K.sz := by
        intro c hc
        simp only [List.mem_map, List.mem_range] at hc
        obtain ⟨i, hi, rfl⟩ := hc
        exact K.len (hC i _ (List.getElem?_eq_getElem hi)).1
      obtain ⟨c, hc, hu⟩ := flatten_get K.pos hl hu
      have hi : j / K.sz < ys.length := by have := (List.getElem?_eq_some_iff.1 hc).1; simpa using this
      simp [hi] at hc; subst hc
      have := (hC _ _ (List.getElem?_eq_getElem hi)).2 _ _ hu
      rw [add_eq]
      rw [Nat.add_assoc, Nat.mul_comm, Nat.div_add_mod] at this
      exact this
theorem OwnS.src (h : OwnS K T L w u ys) : Src K L w u ys := by
  obtain ⟨C, ho, h1, h2⟩ := h
  rcases ho.2 with ⟨rfl, h0⟩ | ⟨g, cap, cur, rfl, _, hg, hn, hm, hs, ht⟩
  · have : ys = [] := List.eq_nil_of_length_eq_zero h0
    subst this
    exact ⟨none, 0, rfl, [], rfl, by simp, .inl ⟨rfl, rfl, rfl⟩⟩
  · refine ⟨_, cap, rfl, C, h1, h2, .inr ⟨_, rfl, fun j u hu => ?_⟩⟩
    exact World.ownsRow.cells (g := g) (⟨ho.1, .inr ⟨g, cap, cur, rfl, Nat.zero_le _, hg, hn, hm, hs, ht⟩⟩ : w.ownsRow 0 T K.sz _ _ _) rfl j u hu

/-- append on a row of the call's own -/
theorem app_run (hT : P.underlying T = some (.slice E)) (ti : TI P E K.sz bytes) (hb : Nat.ble bytes 256 = true) (ho : OwnS K E L w v xs) (hr : Src K L w u ys) (ha : app xs ys = some zs) (hL : ∀ b ∈ ownB v, b ∈ L) :
    ∃ v' w', (∀ ty, (Builtin.append_ #[T, T] ty #[v, u]).run P w = .ok v' w') ∧ OwnS K E (ownB v' ++ L) w' v' zs ∧ G (ownB v) w w' ∧ (∀ b ∈ ownB v', b ∈ ownB v ∨ w.heap.size ≤ b) := by
  have hb := Nat.le_of_ble_eq_true hb
  unfold app at ha
  split at ha
  case isFalse => cases ha
  rename_i hlim
  obtain rfl := Option.some.inj ha
  obtain ⟨i, z, hi, hz, rfl', rfl, hzs⟩ := ti
  obtain ⟨A, c, rfl, CS, hc1, hc2, hsrc⟩ := hr
  obtain ⟨C, how, h1, h2⟩ := ho
  have hl1 := OwnS.lens h1 h2
  have hl2 := OwnS.lens hc1 hc2
  have hbytes : (xs.length + ys.length) * i.bytes ≤ 140737488355328 := by
    unfold lim at hlim
    calc _ ≤ 549755813888 * 256 := Nat.mul_le_mul hlim hb
      _ = _ := by decide
  have h63 : xs.length + ys.length ≤ maxLen := by unfold lim at hlim; unfold maxLen; omega
  -- what it comes to
  have fin : ∀ v' w', w'.ownsRow 0 E K.sz v' (xs.length + ys.length) (C.flatten ++ CS.flatten) → w.grownBy w' v.ownBlock → (∀ b ∈ ownB v', b ∈ ownB v ∨ w.heap.size ≤ b) →
      OwnS K E (ownB v' ++ L) w' v' (xs ++ ys) ∧ G (ownB v) w w' ∧ (∀ b ∈ ownB v', b ∈ ownB v ∨ w.heap.size ≤ b) := by
    intro v' w' hown hg hf
    have hG : G (ownB v) w w' := ⟨hg.os, hg.tape, hg.output, hg.size, fun i hi hn => hg.block i hi (by
      intro e; apply hn
      cases v <;> simp [Value.ownBlock] at e
      rename_i A _ _
      cases A <;> simp at e
      simp [ownB, e])⟩
    refine ⟨⟨C ++ CS, by rw [List.flatten_append, List.length_append]; exact hown, by simp [h1, hc1], fun i c x hc hx => ?_⟩, hG, hf⟩
    have ht : Tr L w (ownB v' ++ L) w' := hG.tB hL (fun b hb => (hf b hb).imp (hL b) id)
    refine K.mono ht ?_
    by_cases hlt : i < C.length
    · rw [List.getElem?_append_left hlt] at hc
      rw [List.getElem?_append_left (by omega)] at hx
      exact h2 i c x hc hx
    · rw [List.getElem?_append_right (by omega)] at hc
      rw [List.getElem?_append_right (by omega)] at hx
      rw [← h1] at hx
      exact hc2 _ c x hc hx
  rcases hsrc with ⟨rfl, rfl, rfl⟩ | ⟨ad, rfl, hcell⟩
  · have hrun := fun ty => run_append_owned_none (P := P) (w := w) 0 T ty E i K.sz hT hi v xs.length C.flatten how
    have hcs : CS = [] := List.eq_nil_of_length_eq_zero hc1
    subst hcs
    exact ⟨v, w, hrun, fin v w (by simpa using how) ⟨rfl, rfl, rfl, Nat.le_refl _, fun _ _ _ => rfl⟩ (fun b h => .inl h)⟩
  · have hnl : CS.flatten.length = ys.length * K.sz := by rw [flatten_len hl2, hc1]
    have hone : ∀ u ∈ CS.flatten, u.oneCell' = true := by
      intro u hu
      obtain ⟨c, hc, hu⟩ := List.mem_flatten.1 hu
      obtain ⟨q, hq, rfl⟩ := List.getElem_of_mem hc
      have hx : q < ys.length := by omega
      exact K.one (hc2 q _ ys[q] (List.getElem?_eq_getElem hq) (List.getElem?_eq_getElem hx)) u hu
    have hz' : z.cells.size = K.sz := hzs
    have key := fun ty => run_append_own (P := P) w 0 T ty E i z K.sz i.bytes hT hi hz rfl' rfl hz' K.pos v xs.length C.flatten how ad ys.length c CS.flatten hnl hcell hone h63 hbytes (Nat.zero_le _)
    -- which row it is
    rcases how.2 with ⟨rfl, h0⟩ | ⟨g, cap, cur, rfl, _, hg, hn, hm, hs, htk⟩
    · have hk2 := fun ty => run_append_own (P := P) w w.heap.size T ty E i z K.sz i.bytes hT hi hz rfl' rfl hz' K.pos (.slice none 0 0) xs.length C.flatten ⟨how.1, .inl ⟨rfl, h0⟩⟩ ad ys.length c CS.flatten hnl hcell hone h63 hbytes (Nat.le_refl _)
      obtain ⟨v', w', hr0, ho0, hg0, _⟩ := hk2 0
      refine ⟨v', w', fun ty => hr0, fin v' w' ⟨ho0.1, ho0.2.imp id (fun ⟨g, cap, cur, a, b, r⟩ => ⟨g, cap, cur, a, Nat.zero_le _, r⟩)⟩ hg0 (fun b hb => .inr ?_)⟩
      rcases ho0.2 with ⟨rfl, _⟩ | ⟨g, cap, cur, rfl, hbg, _⟩
      · simp [ownB] at hb
      · simp [ownB] at hb; subst hb; exact hbg
    · obtain ⟨v', w', hr0, ho0, hg0, _⟩ := key 0
      refine ⟨v', w', fun ty => hr0, fin v' w' ho0 hg0 (fun b hb => ?_)⟩
      by_cases hroom : xs.length + ys.length ≤ cap
      · have := run_append_room (P := P) w T 0 E i hT hi g xs.length cap cur hg ad ys.length c CS.flatten (by rw [rfl']; exact hnl) hcell hone hroom (by rw [rfl', hnl, hs, ← Nat.add_mul]; exact Nat.mul_le_mul_right _ hroom)
        rw [hr0] at this
        injection this with e1 _
        subst e1
        exact .inl hb
      · have hold : ∀ (j : Nat) (u : Value), C.flatten[j]? = some u → w.cell? ((⟨g, 0, none⟩ : Addr).add j) = some u := how.cells (g := g) rfl
        have := run_append_grow (P := P) w T 0 E i z hT hi hz ⟨g, 0, none⟩ xs.length cap C.flatten (by rw [rfl']; exact how.1) hold ad ys.length c CS.flatten (by rw [rfl']; exact hnl) hcell (by omega) (by have : maxLen = 9223372036854775807 := rfl; omega) (growslice_fits (by omega) hbytes)
        rw [hr0] at this
        injection this with e1 _
        subst e1
        simp [ownB] at hb; subst hb
        exact .inr (Nat.le_refl _)
theorem mem_ownB {A : Option Addr} {n c b : Nat} (h : b ∈ ownB (.slice A n c)) : ∃ ad, A = some ad ∧ ad.block = b := by
  cases A with
  | none => simp [ownB] at h
  | some ad => simp [ownB] at h; exact ⟨ad, rfl, h.symm⟩
/-! ### rows of the call's own, as a walk keeps them -/
theorem OwnS.t0 (h : OwnS K E L w v xs) (t : Tr L w L' w') (g : G [] w w') : OwnS K E L' w' v xs := h.tr t g (fun _ _ => by simp)
theorem OwnS.t1 {b : Nat} (h : OwnS K E L w v xs) (t : Tr L w L' w') (g : G [b] w w') (hn : b ∉ ownB v) : OwnS K E L' w' v xs := h.tr t g (fun i hi => by simp; rintro rfl; exact hn hi)
theorem OwnS.sub (h : OwnS K E L w v xs) (hs : ∀ i ∈ L', i ∈ L) : OwnS K E L' w v xs := h.t0 ((Tr.refl _ _).sub hs) (G.refl _ _)
theorem OwnS.nb (h : OwnS K E L w v xs) {b : Nat} (e : b = w.heap.size) : b ∉ ownB v := fun hm => by have := h.lt b hm; omega
theorem Bk.no {b : Nat} {l : List Value} {B : List Nat} (m : Bk w b l T) (hn : b ∉ B) {u' : Value} (f : ∀ x ∈ ownB u', x ∈ B ∨ w.heap.size ≤ x) : b ∉ ownB u' := fun hm => by
  rcases f b hm with h | h
  · exact hn h
  · have := m.lt; omega
theorem OwnS.dj (h : OwnS K E L w v xs) {B : List Nat} (hn : ∀ x ∈ ownB v, x ∉ B) {u' : Value} (f : ∀ x ∈ ownB u', x ∈ B ∨ w.heap.size ≤ x) : ∀ x ∈ ownB v, x ∉ ownB u' := fun x hx hm => by
  rcases f x hm with h1 | h1
  · exact hn x hx h1
  · have := h.lt x hx; omega
theorem djs {A B : List Nat} (h : ∀ x ∈ A, x ∉ B) : ∀ x ∈ B, x ∉ A := fun x hx hm => h x hm hx
theorem nbA {B L0 : List Nat} {w0 : World} {u' : Value} (hL : ∀ b ∈ L0, b < w0.heap.size) (hs : w0.heap.size ≤ w.heap.size) (h : ∀ x ∈ B, x ∉ L0) (f : ∀ x ∈ ownB u', x ∈ B ∨ w.heap.size ≤ x) : ∀ x ∈ ownB u', x ∉ L0 := fun x hx hm => by
  rcases f x hx with h1 | h1
  · exact h x h1 hm
  · have := hL x hm; omega
theorem sfA {B S : List Nat} {w0 : World} {u' : Value} (hs : w0.heap.size ≤ w.heap.size) (h : ∀ x ∈ B, x ∈ S ∨ w0.heap.size ≤ x) (f : ∀ x ∈ ownB u', x ∈ B ∨ w.heap.size ≤ x) : ∀ x ∈ ownB u', x ∈ S ∨ w0.heap.size ≤ x := fun x hx => by
  rcases f x hx with h1 | h1
  · exact h x h1
  · exact .inr (by omega)
theorem Cx.ap {S B : List Nat} {w0 : World} {u' : Value} {zs' : List α} (c : Cx S w0 L w) (g : G B w w') (hs : ∀ x ∈ B, x ∈ S ∨ w0.heap.size ≤ x) (h : OwnS K E L' w' u' zs') : Cx S w0 (ownB u' ++ L) w' :=
  ⟨c.g.trans g hs, fun i hi => by
    rcases List.mem_append.1 hi with h1 | h1
    · exact h.lt i h1
    · exact Nat.lt_of_lt_of_le (c.lt i h1) g.sz⟩
theorem Cx.cs {S B : List Nat} {w0 : World} (c : Cx S w0 L w) (g : G B w w') (hs : ∀ x ∈ B, x ∈ S ∨ w0.heap.size ≤ x) : Cx S w0 L w' :=
  ⟨c.g.trans g hs, fun i hi => Nat.lt_of_lt_of_le (c.lt i hi) g.sz⟩
theorem frB {B : List Nat} {n : Nat} (h : ∀ x ∈ B, n ≤ x) : ∀ x ∈ B, x ∈ ([] : List Nat) ∨ n ≤ x := fun x hx => .inr (h x hx)
theorem tAp {B B' : List Nat} (g : G B w w') (hB : ∀ b ∈ B, b ∈ L) (f : ∀ x ∈ B', x ∈ B ∨ w.heap.size ≤ x) : Tr L w (B' ++ L) w' := g.tB hB (fun b hb => (f b hb).imp (hB b) id)
theorem frN {B : List Nat} {n : Nat} (h : ∀ x ∈ B, n ≤ x) : ∀ x ∈ B, x ∈ ownB (.slice none 0 0) ∨ n ≤ x := fun x hx => .inr (h x hx)
theorem not_cons {b c : Nat} {l : List Nat} (h : c = b → False) (k : b ∉ l) : b ∉ c :: l := fun hm => by
  rcases List.mem_cons.1 hm with rfl | h1
  · exact h rfl
  · exact k h1
theorem not_app {b : Nat} {l m : List Nat} (h : b ∉ l) (k : b ∉ m) : b ∉ l ++ m := fun hm => (List.mem_append.1 hm).elim h k
theorem all2N {R : List Value → α → Prop} : ∀ (i : Nat) (c : List Value) (x : α), ([] : List (List Value))[i]? = some c → ([] : List α)[i]? = some x → R c x := fun _ _ _ h => by simp at h
theorem all2C {R : List Value → α → Prop} {c0 : List Value} {x0 : α} {C : List (List Value)} (h : R c0 x0) (k : ∀ (i : Nat) (c : List Value) (x : α), C[i]? = some c → xs[i]? = some x → R c x) : ∀ (i : Nat) (c : List Value) (x : α), (c0 :: C)[i]? = some c → (x0 :: xs)[i]? = some x → R c x := fun i c x hc hx => by
  cases i with
  | zero => simp at hc hx; subst hc hx; exact h
  | succ i => exact k i c x (by simpa using hc) (by simpa using hx)
/-- a row that is made whole -/
theorem own_made {C : List (List Value)} {ob : Obj} (hC : C.length = xs.length) (hR : ∀ (i : Nat) (c : List Value) (x : α), C[i]? = some c → xs[i]? = some x → K.R L w c x) (hob : ob = .cells C.flatten.toArray E) (hn : xs.length ≤ maxLen) :
    OwnS K E (w.heap.size :: L) (w.alloc ob) (.slice (some ⟨w.heap.size, 0, none⟩) xs.length xs.length) xs := by
  subst hob
  have hl := OwnS.lens hC hR
  have hfl : C.flatten.length = xs.length * K.sz := by rw [flatten_len hl, hC]
  refine ⟨C, ⟨hfl, .inr ⟨w.heap.size, xs.length, _, rfl, Nat.zero_le _, alloc_bk, Nat.le_refl _, hn, by simp [hfl], ?_⟩⟩, hC, fun i c x a b => K.mono ((alloc_g _).tA (Nat.le_refl _)) (hR i c x a b)⟩
  show List.take _ C.flatten = _
  rw [← hfl, List.take_length]

section ops
variable {Q : Exit → Act → World → Prop} {KK : Act → World → Prop} {gd : Option (Nat × Bool)} {a : Act} {N d : Nat} {pos : String} {af : Array Edge} {x y : Operand} {k : IntKind}
theorem oApp (hT : P.underlying T = some (.slice E)) (ti : TI P E K.sz bytes) (hb : Nat.ble bytes 256 = true) (z : Z N a) (hx : a.eval x = v) (hy : a.eval y = u) (ho : OwnS K E L w v xs) (hr : Src K L w u ys) (ha : app xs ys = some zs) (hL : ∀ b ∈ ownB v, b ∈ L) (hd : Nat.ble (d + 1) N = true)
    (k : ∀ a' v' w', Pt N a d v' a' → a'.eval (.tmp d) = v' → OwnS K E (ownB v' ++ L) w' v' zs → G (ownB v) w w' → (∀ b ∈ ownB v', b ∈ ownB v ∨ w.heap.size ≤ b) → KK a' w') :
    Oper.wp P ⟨some d, .call { callee := .builtin .append, args := #[x, y], argTypes := #[T, T] }, ty, pos, af, gd⟩ a w KK Q := by
  obtain ⟨v', w', hrun, h1, h2, h3⟩ := app_run (P := P) hT ti hb ho hr ha hL
  unfold Oper.wp
  have e : (execOp a.eval ⟨some d, .call { callee := .builtin .append, args := #[x, y], argTypes := #[T, T] }, ty, pos, af, gd⟩).run P w = .ok (.value v') w' := by
    simp [execOp, resolve, invoke, builtin, hx, hy, hrun ty]
  rw [e]
  exact k _ _ _ (Pt.mk' z hd) (Pt.mk' z hd).n h1 h2 h3
theorem okLenO (hT : P.underlying T = some (.slice E)) {E2 : Nat} (hx : a.eval x = v) (h : OwnS K E2 L w' v xs) : Ok P a w (.call { callee := .builtin .len, args := #[x], argTypes := #[T] }) ty (.int .i64 (xs.length : Int)) := by
  obtain ⟨A, cap, rfl, _⟩ := h.val
  exact okLen hT hx
/-- an element of a row of the call's own -/
theorem OwnS.at_ {e : α} {i : Int} (h : OwnS K E L w v xs) (he : ix xs i = some e) : ∃ b cs, K.R L w cs e ∧ Cl w b (i.toNat * K.sz) cs ∧ ownB v = [b] ∧
    ∀ {P : Program} {a : Act} {x y : Operand} {T ty : TypeId} {k : IntKind}, P.underlying T = some (.slice E) → (∀ w, (sizeOf E).run P w = .ok K.sz w) → a.eval x = v → a.eval y = .int k i → ∀ w', Ok P a w' (.indexAddr T x y) ty (ptr b (i.toNat * K.sz)) := by
  unfold ix at he
  split at he
  case isFalse => cases he
  rename_i h0
  have hlt : i.toNat < xs.length := (List.getElem?_eq_some_iff.1 he).1
  obtain ⟨C, ho, h1, h2⟩ := h
  have hlen := OwnS.lens h1 h2
  rcases ho.2 with ⟨rfl, h0⟩ | ⟨g, cap, cur, rfl, hb0, hg, hn, hm, hs, ht⟩
  · omega
  · have hc : C[i.toNat]? = some C[i.toNat] := List.getElem?_eq_getElem (by omega)
    refine ⟨g, C[i.toNat], h2 _ _ _ hc he, fun j u hu => ?_, rfl, fun hT hE hx hy w' d pos af gd => ?_⟩
    · have hj : j < K.sz := by
        have := (List.getElem?_eq_some_iff.1 hu).1
        rwa [hlen _ (List.mem_of_getElem? hc)] at this
      have e := flatten_at hlen hc hj
      have := World.ownsRow.cells (g := g) (⟨ho.1, .inr ⟨g, cap, cur, rfl, hb0, hg, hn, hm, hs, ht⟩⟩ : w.ownsRow 0 E K.sz _ _ _) rfl _ _ (e.trans hu)
      rwa [add_eq, Nat.zero_add] at this
    · have hi : 0 ≤ i ∧ i < (xs.length : Int) := ⟨h0, by omega⟩
      simp only [execOp, Instr.indexAt, hx, hy, asIntOf, Sem.run_bind, Sem.run_pure, Result.andThen_ok, run_underlying hT, if_pos hi, hE, add_eq, Nat.zero_add]

theorem oBS {C : List (List Value)} {n : Nat} {parts : Array (Nat × Operand)} {vs : Array (Nat × Value)} (z : Z N a) (h : parts.map (fun p => (p.1, a.eval p.2)) = vs) (hb : ∀ w, (Instr.buildSlice T n vs).run P w = .ok (.slice (some ⟨w.heap.size, 0, none⟩) n n) (w.alloc (.cells C.flatten.toArray E)))
    (hC : C.length = xs.length) (hn : xs.length = n) (hR : ∀ (i : Nat) (c : List Value) (x : α), C[i]? = some c → xs[i]? = some x → K.R L w c x) (hm : Nat.ble n 1000 = true) (hd : Nat.ble (d + 1) N = true)
    (k : ∀ a' v' w', Pt N a d v' a' → a'.eval (.tmp d) = v' → OwnS K E (ownB v' ++ L) w' v' xs → G [] w w' → (∀ x ∈ ownB v', w.heap.size ≤ x) → KK a' w') : Oper.wp P ⟨some d, .buildSlice T n parts, ty, pos, af, gd⟩ a w KK Q := by
  subst h hn
  have hm := Nat.le_of_ble_eq_true hm
  unfold Oper.wp
  have e : (execOp a.eval ⟨some d, .buildSlice T xs.length parts, ty, pos, af, gd⟩).run P w = .ok (.value (.slice (some ⟨w.heap.size, 0, none⟩) xs.length xs.length)) (w.alloc (.cells C.flatten.toArray E)) := by
    simp only [execOp, Sem.run_bind]
    have e : (parts.map fun x => match x with | (i, x) => (i, a.eval x)) = parts.map (fun p => (p.1, a.eval p.2)) := rfl
    rw [e, hb]; rfl
  rw [e]
  exact k _ _ _ (Pt.mk' z hd) (Pt.mk' z hd).n (own_made hC hR rfl (by unfold maxLen; omega)) (alloc_g _) (fun x hx => by simp [ownB] at hx; omega)

/-! ### slicing -/
def slc (xs : List α) (l h : Int) : Option (List α) := if 0 ≤ l ∧ l ≤ h ∧ h ≤ xs.length then some ((xs.take h.toNat).drop l.toNat) else none
theorem slice_run {A : Option Addr} {n cap sz : Nat} {lo hi : Option Value} {l h : Int} (hT : P.underlying T = some (.slice E)) (hE : ∀ w, (sizeOf E).run P w = .ok sz w)
    (hl : (lo = none ∧ l = 0) ∨ ∃ k, lo = some (.int k l)) (hh : (hi = none ∧ h = n) ∨ ∃ k, hi = some (.int k h)) (hb : 0 ≤ l ∧ l ≤ h ∧ h ≤ n) (hn : n ≤ cap) :
    (Instr.sliceAt T (.slice A n cap) lo hi none).run P w = .ok (.slice (if cap = l.toNat then A else A.map (·.add (l.toNat * sz))) (h.toNat - l.toNat) (cap - l.toNat)) w := by
  have e1 : 0 ≤ h ∧ h ≤ (cap : Int) := by omega
  have e2 : 0 ≤ l ∧ l ≤ (h.toNat : Int) := by omega
  rcases hl with ⟨rfl, rfl⟩ | ⟨k1, rfl⟩ <;> rcases hh with ⟨rfl, rfl⟩ | ⟨k2, rfl⟩
  · simp [Instr.sliceAt, Instr.slice, Instr.sliceBounds, Instr.sliceBound, run_underlying hT, asIntOf, hE]
  · simp [Instr.sliceAt, Instr.slice, Instr.sliceBounds, Instr.sliceBound, run_underlying hT, asIntOf, hE, e1]
  · have e2 : 0 ≤ l ∧ l ≤ (n : Int) := by omega
    simp [Instr.sliceAt, Instr.slice, Instr.sliceBounds, Instr.sliceBound, run_underlying hT, asIntOf, hE, e2]
  · have e3 : ¬ max h 0 < l := by omega
    simp [Instr.sliceAt, Instr.slice, Instr.sliceBounds, Instr.sliceBound, run_underlying hT, asIntOf, hE, e1, e2, e3]
theorem slc_get {l h : Int} (hs : slc xs l h = some zs) : 0 ≤ l ∧ l ≤ h ∧ h ≤ xs.length ∧ zs.length = h.toNat - l.toNat ∧ ∀ i x, zs[i]? = some x → xs[l.toNat + i]? = some x := by
  unfold slc at hs
  split at hs
  case isFalse => cases hs
  rename_i hc
  obtain rfl := Option.some.inj hs
  refine ⟨hc.1, hc.2.1, hc.2.2, by simp; omega, fun i x hx => ?_⟩
  rw [List.getElem?_drop] at hx
  have hlt := (List.getElem?_eq_some_iff.1 hx).1
  simp only [List.length_take] at hlt
  rwa [List.getElem?_take_of_lt (by omega)] at hx
/-- a slice of a slice that is read -/
theorem RdS.slc {lo hi : Option Operand} {l h : Int} (hr : RdS K L w v xs) (hs : slc xs l h = some zs) : ∃ v', RdS K L w v' zs ∧
    ∀ {P : Program} {a : Act} {x : Operand} {T ty : TypeId}, P.underlying T = some (.slice E) → (∀ w, (sizeOf E).run P w = .ok K.sz w) → a.eval x = v →
      ((lo.map a.eval = none ∧ l = 0) ∨ ∃ k, lo.map a.eval = some (.int k l)) → ((hi.map a.eval = none ∧ h = xs.length) ∨ ∃ k, hi.map a.eval = some (.int k h)) → ∀ w', Ok P a w' (.slice T x lo hi none) ty v' := by
  obtain ⟨c1, c2, c3, hz, hg⟩ := slc_get hs
  obtain ⟨A, cap, rfl, h1, h2, h3⟩ := hr
  refine ⟨.slice (if cap = l.toNat then A else A.map (·.add (l.toNat * K.sz))) (h.toNat - l.toNat) (cap - l.toNat), ⟨_, _, by rw [hz], by omega, by omega, ?_⟩, fun hT hE hx hl hh w' d pos af gd => ?_⟩
  · rcases h3 with ⟨rfl, h0⟩ | ⟨b, off, C, rfl, hb, hC⟩
    · refine .inl ⟨List.eq_nil_of_length_eq_zero (by simp at h1 c3; omega), fun e => ?_⟩
      cases A with
      | none => have := h0 rfl; omega
      | some ad => split at e <;> simp at e
    · by_cases hc : cap = l.toNat
      · refine .inl ⟨List.eq_nil_of_length_eq_zero (by omega), fun e => ?_⟩
        rw [if_pos hc] at e; cases e
      · refine .inr ⟨b, off + l.toNat * K.sz, fun i => C (l.toNat + i), ?_, hb, fun i x hi => ?_⟩
        · rw [if_neg hc]; simp [add_eq]
        · obtain ⟨hR, hcl⟩ := hC _ _ (hg i x hi)
          refine ⟨hR, ?_⟩
          rw [Nat.add_mul] at hcl
          rwa [Nat.add_assoc]
  · simp only [execOp, hx, Option.map_none]
    rw [Sem.run_bind, slice_run (P := _) (w := w') (A := A) hT hE hl hh ⟨c1, c2, c3⟩ h1]
    rfl
/-- the first ones of a row of the call's own -/
theorem OwnS.slc {lo hi : Option Operand} {h : Int} (hr : OwnS K E L w v xs) (hs : Gx.slc xs 0 h = some zs) : ∃ v', OwnS K E L w v' zs ∧ ownB v' = ownB v ∧
    ∀ {P : Program} {a : Act} {x : Operand} {T ty : TypeId}, P.underlying T = some (.slice E) → (∀ w, (sizeOf E).run P w = .ok K.sz w) → a.eval x = v →
      ((lo.map a.eval = none ∧ (0 : Int) = 0) ∨ ∃ k, lo.map a.eval = some (.int k 0)) → ((hi.map a.eval = none ∧ h = xs.length) ∨ ∃ k, hi.map a.eval = some (.int k h)) → ∀ w', Ok P a w' (.slice T x lo hi none) ty v' := by
  have hz : zs = xs.take h.toNat := by
    unfold Gx.slc at hs; split at hs
    · simpa using (Option.some.inj hs).symm
    · cases hs
  obtain ⟨c1, c2, c3, hzl, hg⟩ := slc_get hs
  obtain ⟨C, ho, h1, h2⟩ := hr
  have hlen := OwnS.lens h1 h2
  have hsl : ∀ A cap, v = .slice A xs.length cap → xs.length ≤ cap → (if cap = 0 then A else A.map (·.add (0 * K.sz))) = A := by
    intro A cap _ _
    split
    · rfl
    · cases A <;> simp [Addr.add]
  rcases ho.2 with ⟨rfl, h0⟩ | ⟨g, cap, cur, rfl, hb0, hgb, hn, hm, hss, ht⟩
  · have : xs = [] := List.eq_nil_of_length_eq_zero h0
    subst this
    have hz0 : zs = [] := by simpa using hz
    subst hz0
    refine ⟨.slice none 0 0, OwnS.nil, rfl, fun hT hE hx hl hh w' d pos af gd => ?_⟩
    simp only [execOp, hx, Option.map_none]
    rw [Sem.run_bind, slice_run (P := _) (w := w') (A := none) (n := 0) (cap := 0) hT hE hl hh ⟨c1, c2, c3⟩ (Nat.le_refl _)]
    simp at c3
    have : h = 0 := by omega
    subst this
    simp
  · refine ⟨.slice (some ⟨g, 0, none⟩) zs.length cap, ⟨C.take h.toNat, ?_, ?_, fun i c x hc hx => ?_⟩, rfl, fun hT hE hx hl hh w' d pos af gd => ?_⟩
    · have hfl : ∀ (C : List (List Value)) (n : Nat), (∀ c ∈ C, c.length = K.sz) → (C.take n).flatten = C.flatten.take (n * K.sz) := by
        intro C
        induction C with
        | nil => intro n _; simp
        | cons c C ih =>
          intro n hc
          cases n with
          | zero => simp
          | succ n =>
            simp only [List.take_succ_cons, List.flatten_cons]
            rw [ih n (fun c h => hc c (by simp [h]))]
            have hcl := hc c (by simp)
            have e : (n + 1) * K.sz = K.sz + n * K.sz := by rw [Nat.add_mul]; omega
            have e2 : List.take (K.sz + n * K.sz) c = c := List.take_of_length_le (by omega)
            have e3 : K.sz + n * K.sz - K.sz = n * K.sz := by omega
            rw [e, List.take_append, hcl, e2, e3]
      have hzl2 : zs.length = h.toNat := by omega
      rw [hfl C _ hlen]
      refine ⟨?_, .inr ⟨g, cap, cur, rfl, hb0, hgb, by omega, hm, hss, ?_⟩⟩
      · rw [List.length_take, ho.1, hzl2]
        have : h.toNat * K.sz ≤ xs.length * K.sz := Nat.mul_le_mul_right _ (by omega)
        omega
      · rw [← ht, List.take_take, hzl2]
        congr 1
        have : h.toNat * K.sz ≤ xs.length * K.sz := Nat.mul_le_mul_right _ (by omega)
        omega
    · rw [List.length_take, h1]; omega
    · rw [List.getElem?_take] at hc
      split at hc
      · have := hg i x hx
        simp only [Int.toNat_zero, Nat.zero_add] at this
        exact h2 i c x hc this
      · cases hc
    · simp only [execOp, hx, Option.map_none]
      rw [Sem.run_bind, slice_run (P := _) (w := w') (A := some ⟨g, 0, none⟩) hT hE hl hh ⟨c1, c2, c3⟩ hn]
      have hzl2 : zs.length = h.toNat := by omega
      simp [hzl2, Addr.add]
end ops
end
end Go.Proofs.YtbfndihcbogjfaaDoor.Gx
