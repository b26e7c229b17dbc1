/-
  Plain theorems, over any program: rows that are made; rows that grow by zeros; elements told anew. Conditions: as said.
-/
import Derived.Test.YtbfndihcbogjfaaDoorG13
import Derived.Laws.MakeOwn
namespace Go.Proofs.YtbfndihcbogjfaaDoor.Gx
open Go Go.RowKit
section
variable {P : Program} {w w' : World} {α : Type} {K : Kd α} {L L' : List Nat} {xs ys zs : List α} {v u : Value} {T E ty bytes b b' : Nat} {x0 : α} {n : Int}
/-- a row of zeros -/
def mk {α : Type} (n : Int) (x0 : α) : Option (List α) := if 0 ≤ n ∧ n ≤ (lim : Int) then some (List.replicate n.toNat x0) else none
def appz {α : Type} (xs : List α) (n : Int) (x0 : α) : Option (List α) := if 0 ≤ n ∧ (xs.length : Int) + n ≤ (lim : Int) then some (xs ++ List.replicate n.toNat x0) else none
theorem own1 (h : ownB v = [b]) (h' : ownB v = [b']) : b = b' := by rw [h] at h'; simpa using h'
theorem own_in (h : ownB v = [b]) : b ∈ ownB v := by rw [h]; exact .head _
theorem ix_set {i : Int} {e e' : α} (h : ix xs i = some e) : ix (xs.set i.toNat e') i = some e' := by
  unfold ix at h ⊢
  split at h
  case isFalse => cases h
  rename_i h0
  rw [if_pos h0]
  have := (List.getElem?_eq_some_iff.1 h).1
  simp [this]
theorem rep_len {l : List Value} {m : Nat} : ∀ c ∈ List.replicate m l, c.length = l.length := fun c hc => by rw [List.eq_of_mem_replicate hc]
theorem zr {zc : List Value} {i : TypeInfo} {z : Value} (hi : P.info? E = some i) (hz : i.zero = some z) (h : ZV P E zc) : z.cells = zc.toArray := by
  obtain ⟨zv, h1, h2⟩ := h
  have h3 := h1 default
  simp [zeroValue, typeInfo, hi, hz] at h3
  subst h3; exact h2
section ops
variable {Q : Exit → Act → World → Prop} {KK : Act → World → Prop} {gd : Option (Nat × Bool)} {a : Act} {N d : Nat} {pos : String} {af : Array Edge} {x y : Operand} {k k2 : IntKind} {zc : List Value}
theorem oMk (hT : P.underlying T = some (.slice E)) (ti : TI P E K.sz bytes) (hb : Nat.ble bytes 256 = true) (hz : ZV P E zc) (hR : ∀ w, K.R L w zc x0) (z : Z N a) (hx : a.eval x = .int k n) (hy : a.eval y = .int k2 n) (hm : mk n x0 = some zs) (hd : Nat.ble (d + 1) N = true)
    (kk : ∀ a' v' w', Pt N a d v' a' → a'.eval (.tmp d) = v' → OwnS K E (ownB v' ++ L) w' v' zs → G [] w w' → (∀ x ∈ ownB v', w.heap.size ≤ x) → KK a' w') : Oper.wp P ⟨some d, .makeSlice T x y, ty, pos, af, gd⟩ a w KK Q := by
  have hb := Nat.le_of_ble_eq_true hb
  unfold mk at hm
  split at hm
  case isFalse => cases hm
  rename_i hn
  obtain rfl := Option.some.inj hm
  obtain ⟨i, zv, hi, hz', rfl', rfl, hzs⟩ := ti
  have hzc := zr hi hz' hz
  have hbytes : (i.bytes : Int) * n ≤ 281474976710656 := by
    have h1 : (i.bytes : Int) ≤ 256 := by omega
    have h2 : n ≤ 549755813888 := by have := hn.2; unfold lim at this; omega
    calc (i.bytes : Int) * n ≤ 256 * n := Int.mul_le_mul_of_nonneg_right h1 hn.1
      _ ≤ 256 * 549755813888 := by omega
      _ ≤ _ := by omega
  have hr := run_make (P := P) w T E i zv hT hi hz' k k2 n n hn.1 (Int.le_refl _) hbytes (by have := hn.2; unfold lim at this; omega)
  have hlen : zc.length = K.sz := K.len (hR w)
  have hne : zc ≠ [] := fun e => by have := K.pos; rw [e] at hlen; simp at hlen; omega
  have hcs : madeCells zv.cells (n.toNat * i.size) = ((List.replicate n.toNat zc).flatten).toArray := by
    have e1 : madeCells zv.cells (n.toNat * i.size) = Builtin.zeroCells zv.cells n.toNat := by
      unfold madeCells Builtin.zeroCells
      rw [hzs, rfl']
    rw [e1]
    apply Array.ext'
    rw [zeroCells_list hzc hne]
  rw [hcs] at hr
  unfold Oper.wp
  have e : (execOp a.eval ⟨some d, .makeSlice T x y, ty, pos, af, gd⟩).run P w = .ok (.value (.slice (some ⟨w.heap.size, 0, none⟩) n.toNat n.toNat)) (w.alloc (.cells ((List.replicate n.toNat zc).flatten).toArray E)) := by
    simp only [execOp, hx, hy, Sem.run_bind, hr, Result.andThen_ok, Sem.run_pure]
  rw [e]
  have hrow := own_made (K := K) (L := L) (w := w) (E := E) (C := List.replicate n.toNat zc) (xs := List.replicate n.toNat x0) (ob := .cells ((List.replicate n.toNat zc).flatten).toArray E) (by simp) (fun i c x hc hx => by
    have hc := List.eq_of_mem_replicate (List.mem_of_getElem? hc)
    have hx := List.eq_of_mem_replicate (List.mem_of_getElem? hx)
    subst hc hx; exact hR w) rfl (by have := hn.2; unfold lim at this; simp only [List.length_replicate]; unfold maxLen; omega)
  simp only [List.length_replicate] at hrow
  exact kk _ _ _ (Pt.mk' z hd) (Pt.mk' z hd).n hrow (alloc_g _) (fun x hx => by simp [ownB] at hx; omega)
theorem appz_run {TI_ : TypeId} {ik : IntKind} (hT : P.underlying T = some (.slice E)) (hI : P.underlying TI_ = some (.int ik)) (ti : TI P E K.sz bytes) (hb : Nat.ble bytes 256 = true) (hz : ZV P E zc) (hR : ∀ L w, K.R L w zc x0) (ho : OwnS K E L w v xs) (ha : appz xs n x0 = some zs) (hL : ∀ b ∈ ownB v, b ∈ L) :
    ∃ v' w', (∀ ty, (Builtin.append_ #[T, TI_] ty #[v, .int k n]).run P w = .ok v' w') ∧ OwnS K E (ownB v' ++ L) w' v' zs ∧ G (ownB v) w w' ∧ (∀ b ∈ ownB v', b ∈ ownB v ∨ w.heap.size ≤ b) := by
  have hb := Nat.le_of_ble_eq_true hb
  unfold appz at ha
  split at ha
  case isFalse => cases ha
  rename_i hlim
  obtain rfl := Option.some.inj ha
  obtain ⟨i, z, hi, hz', rfl', rfl, hzs⟩ := ti
  have hzc := zr hi hz' hz
  have hlen : zc.length = K.sz := K.len (hR L w)
  have hne : zc ≠ [] := fun e => by have := K.pos; rw [e] at hlen; simp at hlen; omega
  have hpos := K.pos
  obtain ⟨C, how, h1, h2⟩ := id ho
  have hl1 := OwnS.lens h1 h2
  obtain ⟨m, rfl⟩ : ∃ m : Nat, n = (m : Int) := ⟨n.toNat, by omega⟩
  have hlim2 : xs.length + m ≤ 549755813888 := by have := hlim.2; unfold lim at this; omega
  simp only [Int.toNat_natCast]
  have hwrap : IntKind.i64.wrap (m : Int) = (m : Int) := by rw [IntKind.wrap_i64]; omega
  have hn0 : ¬ (m : Int) < 0 := by omega
  have hw0 : IntKind.i64.wrap 0 = 0 := by decide
  have hbm : (m : Int) * (i.bytes : Int) ≤ 281474976710656 := by
    have : m * i.bytes ≤ 549755813888 * 256 := Nat.mul_le_mul (by omega) hb
    have e : ((m * i.bytes : Nat) : Int) ≤ 281474976710656 := by omega
    rwa [Int.natCast_mul] at e
  have hbm' : ¬ (281474976710656 < (m : Int) * (i.bytes : Int)) := by omega
  have hbytes : (xs.length + m) * i.bytes ≤ 140737488355328 := by
    calc _ ≤ 549755813888 * 256 := Nat.mul_le_mul hlim2 hb
      _ = _ := by decide
  have h63 : xs.length + m ≤ maxLen := by unfold maxLen; omega
  have hD : ∀ c ∈ List.replicate m zc, c.length = K.sz := fun c hc => (rep_len c hc).trans hlen
  have hnews : Builtin.zeroCells z.cells m = ((List.replicate m zc).flatten).toArray := by
    apply Array.ext'
    rw [zeroCells_list hzc hne]
  have hnl : (List.replicate m zc).flatten.length = m * K.sz := by rw [flatten_len hD, List.length_replicate]
  have hone : ∀ u ∈ (List.replicate m zc).flatten, u.oneCell' = true := by
    intro u hu
    obtain ⟨c, hc, hu⟩ := List.mem_flatten.1 hu
    rw [List.eq_of_mem_replicate hc] at hu
    exact K.one (hR L w) u hu
  have fin : ∀ v' w', w'.ownsRow 0 E K.sz v' (xs.length + m) (C.flatten ++ (List.replicate m zc).flatten) → w.grownBy w' v.ownBlock → (∀ b ∈ ownB v', b ∈ ownB v ∨ w.heap.size ≤ b) →
      OwnS K E (ownB v' ++ L) w' v' (xs ++ List.replicate m x0) ∧ G (ownB v) w w' ∧ (∀ b ∈ ownB v', b ∈ ownB v ∨ w.heap.size ≤ b) := by
    intro v' w' hown hg hf
    have hG : G (ownB v) w w' := ⟨hg.os, hg.tape, hg.output, hg.size, fun i hi hn => hg.block i hi (by
      intro e; apply hn
      cases v <;> simp [Value.ownBlock] at e
      rename_i A _ _
      cases A <;> simp at e
      simp [ownB, e])⟩
    refine ⟨⟨C ++ List.replicate m zc, by rw [List.flatten_append, List.length_append, List.length_replicate]; exact hown, by simp [h1], fun i c x hc hx => ?_⟩, hG, hf⟩
    have ht : Tr L w (ownB v' ++ L) w' := hG.tB hL (fun b hb => (hf b hb).imp (hL b) id)
    by_cases hlt : i < C.length
    · rw [List.getElem?_append_left hlt] at hc
      rw [List.getElem?_append_left (by omega)] at hx
      exact K.mono ht (h2 i c x hc hx)
    · rw [List.getElem?_append_right (by omega)] at hc
      rw [List.getElem?_append_right (by omega)] at hx
      have hc := List.eq_of_mem_replicate (List.mem_of_getElem? hc)
      have hx := List.eq_of_mem_replicate (List.mem_of_getElem? hx)
      subst hc hx; exact hR _ _
  -- a new row
  have grown : ∀ (old : Nat), old < xs.length + m → ∀ (row : Option Nat),
      (w.drew.alloc (.cells (C.flatten.toArray ++ ((List.replicate m zc).flatten).toArray ++ Builtin.zeroCells z.cells (grownCap w (xs.length + m) old E - (xs.length + m))) E)).ownsRow 0 E K.sz
        (.slice (some ⟨w.heap.size, 0, none⟩) (xs.length + m) (grownCap w (xs.length + m) old E)) (xs.length + m) (C.flatten ++ (List.replicate m zc).flatten) ∧
      w.grownBy (w.drew.alloc (.cells (C.flatten.toArray ++ ((List.replicate m zc).flatten).toArray ++ Builtin.zeroCells z.cells (grownCap w (xs.length + m) old E - (xs.length + m))) E)) row := by
    intro old hold row
    have hge := grownCap_ge w (xs.length + m) old E
    have hcm : grownCap w (xs.length + m) old E ≤ maxLen := grownCap_le_maxLen w (xs.length + m) old E h63
    have hfl : C.flatten.length = xs.length * K.sz := how.1
    have hlen2 : (C.flatten ++ (List.replicate m zc).flatten).length = (xs.length + m) * K.sz := by rw [List.length_append, hfl, hnl, Nat.add_mul]
    refine ⟨⟨hlen2, .inr ⟨w.heap.size, _, _, rfl, Nat.zero_le _, heap_alloc_new w.drew _, hge, hcm, ?_, ?_⟩⟩, ⟨rfl, rfl, rfl, by simp, fun k hk _ => by
      simp only [World.alloc, Array.getElem?_push]
      rw [if_neg (by have : w.drew.heap.size = w.heap.size := rfl
                     omega)]
      rfl⟩⟩
    · simp only [Array.size_append, List.size_toArray, size_zeroCells, hzs, hfl, hnl, ← Nat.add_mul]
      congr 1
      omega
    · simp only [Array.toList_append, List.append_assoc]
      rw [← List.append_assoc, ← hlen2]
      exact List.take_left
  rcases how.2 with ⟨rfl, h0⟩ | ⟨g, cap, cur, rfl, hb0, hg, hn, hm, hs, htk⟩
  · have hx0 : xs = [] := List.eq_nil_of_length_eq_zero h0
    subst hx0
    have hC0 : C = [] := List.eq_nil_of_length_eq_zero h1
    subst hC0
    by_cases hm0 : m = 0
    · subst hm0
      refine ⟨.slice none 0 0, w, fun ty => ?_, fin _ _ (by simpa using how) ⟨rfl, rfl, rfl, Nat.le_refl _, fun _ _ _ => rfl⟩ (fun b h => .inl h)⟩
      simp [Builtin.append_, run_underlying hT, run_underlying hI, sizeOf, typeInfo, hi, asInt, asIntOf, hw0]
    · have hgr := grown 0 (by simp; omega) (Value.ownBlock (.slice none 0 0))
      have hn48 : ¬ (281474976710656 < Builtin.nextslicecap m 0 * i.bytes) := by
        have := growslice_fits (need := m) (old := 0) (bytes := i.bytes) (by omega) (by simpa using hbytes)
        omega
      have h63' : ¬ (9223372036854775807 < (m : Int)) := by omega
      have hmz : ¬ (m * i.size = 0) := by
        rw [rfl']
        intro e
        rcases Nat.mul_eq_zero.1 e with h | h <;> omega
      refine ⟨_, _, fun ty => ?_, fin _ _ hgr.1 hgr.2 (fun b hb => .inr ?_)⟩
      · simp [Builtin.append_, run_underlying hT, run_underlying hI, sizeOf, typeInfo, zeroValue, hi, hz', asInt, asIntOf, hwrap, hn0, hbm', hm0, hn48, h63', hmz, Question.forced, newRow, grownCap, Builtin.firstCells, hnews]
      · simp [ownB] at hb; subst hb; exact Nat.le_refl _
  · by_cases hm0 : m = 0
    · subst hm0
      refine ⟨.slice (some ⟨g, 0, none⟩) xs.length cap, w, fun ty => ?_, fin _ _ (by simpa using how) ⟨rfl, rfl, rfl, Nat.le_refl _, fun _ _ _ => rfl⟩ (fun b h => .inl h)⟩
      simp [Builtin.append_, run_underlying hT, run_underlying hI, sizeOf, typeInfo, hi, asInt, asIntOf, hw0, hn, storeCells]
    · have hmz : ¬ (m * i.size = 0) := by
        rw [rfl']
        intro e
        rcases Nat.mul_eq_zero.1 e with h | h <;> omega
      by_cases hroom : xs.length + m ≤ cap
      · have hfit : xs.length * i.size + (List.replicate m zc).flatten.length ≤ cur.size := by rw [hnl, hs, rfl', ← Nat.add_mul]; exact Nat.mul_le_mul_right _ hroom
        have hst := run_storeCells_at P g (xs.length * i.size) E (List.replicate m zc).flatten 0 cur w hg (by simpa using hfit) hone
        simp only [Nat.add_zero] at hst
        refine ⟨.slice (some ⟨g, 0, none⟩) (xs.length + m) cap, _, fun ty => ?_, fin _ (w.setRow g (cur.toList.take (xs.length * i.size) ++ (List.replicate m zc).flatten ++ cur.toList.drop (xs.length * i.size + (List.replicate m zc).flatten.length)).toArray) ?_ ⟨rfl, rfl, rfl, by simp, fun k _ hk => setRow_other w g k _ (fun e => hk (by simp [Value.ownBlock, e]))⟩ (fun b hb => .inl hb)⟩
        · simp [Builtin.append_, run_underlying hT, run_underlying hI, sizeOf, typeInfo, zeroValue, hi, hz', asInt, asIntOf, hwrap, hn0, hbm', hroom, hmz, hnews, Addr.add_lit, hst]
        · rw [rfl']
          rw [rfl'] at hfit
          have hfl : C.flatten.length = xs.length * K.sz := how.1
          have hlen2 : (C.flatten ++ (List.replicate m zc).flatten).length = (xs.length + m) * K.sz := by rw [List.length_append, hfl, hnl, Nat.add_mul]
          refine ⟨hlen2, .inr ⟨g, cap, _, rfl, hb0, setRow_heap w g cur _ E _ hg, hroom, hm, ?_, ?_⟩⟩
          · simp only [List.size_toArray, List.length_append, List.length_take, List.length_drop, Array.length_toList]
            omega
          · rw [htk, ← hlen2]
            exact List.take_left
      · have hold : ∀ (j : Nat) (u : Value), C.flatten[j]? = some u → w.cell? ((⟨g, 0, none⟩ : Addr).add j) = some u := how.cells (g := g) rfl
        have hgr := grown cap (by omega) (Value.ownBlock (.slice (some ⟨g, 0, none⟩) xs.length cap))
        have hn48 : ¬ (281474976710656 < Builtin.nextslicecap (xs.length + m) cap * i.bytes) := by
          have := growslice_fits (need := xs.length + m) (old := cap) (bytes := i.bytes) (by omega) hbytes
          omega
        have h63' : ¬ (9223372036854775807 < ((xs.length : Int) + (m : Int))) := by omega
        have hfo := run_firstCells_some (P := P) w.drew i.size xs.length ⟨g, 0, none⟩ xs.length cap C.flatten (by rw [rfl']; exact how.1) (by simpa using hold)
        refine ⟨_, _, fun ty => ?_, fin _ _ hgr.1 hgr.2 (fun b hb => .inr ?_)⟩
        · simp [Builtin.append_, run_underlying hT, run_underlying hI, sizeOf, typeInfo, zeroValue, hi, hz', asInt, asIntOf, hwrap, hn0, hbm', hroom, hmz, hn48, h63', Question.forced, newRow, grownCap, hfo, hnews]
          congr 2
          apply Array.ext'
          simp [List.append_assoc]
        · simp [ownB] at hb; subst hb; exact Nat.le_refl _
theorem oAppZ {TI_ : TypeId} {ik : IntKind} (hT : P.underlying T = some (.slice E)) (hI : P.underlying TI_ = some (.int ik)) (ti : TI P E K.sz bytes) (hb : Nat.ble bytes 256 = true) (hz : ZV P E zc) (hR : ∀ L w, K.R L w zc x0) (z : Z N a) (hx : a.eval x = v) (hy : a.eval y = .int k n) (ho : OwnS K E L w v xs) (ha : appz xs n x0 = some zs) (hL : ∀ b ∈ ownB v, b ∈ L) (hd : Nat.ble (d + 1) N = true)
    (kk : ∀ a' v' w', Pt N a d v' a' → a'.eval (.tmp d) = v' → OwnS K E (ownB v' ++ L) w' v' zs → G (ownB v) w w' → (∀ b ∈ ownB v', b ∈ ownB v ∨ w.heap.size ≤ b) → KK a' w') :
    Oper.wp P ⟨some d, .call { callee := .builtin .append, args := #[x, y], argTypes := #[T, TI_] }, ty, pos, af, gd⟩ a w KK Q := by
  obtain ⟨v', w', hrun, h1, h2, h3⟩ := appz_run (P := P) (k := k) hT hI ti hb hz hR ho ha hL
  unfold Oper.wp
  have e : (execOp a.eval ⟨some d, .call { callee := .builtin .append, args := #[x, y], argTypes := #[T, TI_] }, ty, pos, af, gd⟩).run P w = .ok (.value v') w' := by
    simp [execOp, resolve, invoke, builtin, hx, hy, hrun ty]
  rw [e]
  exact kk _ _ _ (Pt.mk' z hd) (Pt.mk' z hd).n h1 h2 h3
/-- a pointer that isn't nil -/
theorem okNil {o : Nat} (hx : a.eval x = ptr b o) : Ok P a w (.nilCheck x) ty (ptr b o) := fun d pos af g => by simp [execOp, hx, ptr]
end ops
end
end Go.Proofs.YtbfndihcbogjfaaDoor.Gx
