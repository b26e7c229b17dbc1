/-
  Plain theorems, over any program: a string's bytes behind a row of bytes; strings.Builder as a block. Conditions: as said.
-/
import Derived.Test.YtbfndihcbogjfaaDoorG15
import Derived.Lib.AppendStr
import Derived.Lib.Builder
import Derived.Lib.UnsafeStr
namespace Go.Proofs.YtbfndihcbogjfaaDoor.Gx
open Go Go.RowKit
/-- a string's bytes as numbers -/
def nums (s : List UInt8) : List Int := s.map fun b => (b.toNat : Int)
def appb (xs : List Int) (s : List UInt8) : Option (List Int) := if xs.length + s.length ≤ lim then some (xs ++ nums s) else none
section
variable {P : Program} {w w' : World} {L L' : List Nat} {xs zs : List Int} {v u : Value} {T E ty bytes b b' : Nat} {s : List UInt8}
theorem nums_len : (nums s).length = s.length := by simp [nums]
theorem strc : Lib.strCells ⟨s.toArray⟩ = (nums s).map (.int .u8) := by simp [Lib.strCells, nums]
theorem esz : (⟨s.toArray⟩ : ByteArray).size = s.length := by simp [ByteArray.size]
theorem apps_run {TS : TypeId} (hT : P.underlying T = some (.slice E)) (hI : P.underlying TS = some .string) (hi : ∃ i, P.info? E = some i ∧ i.zero = some (.int .u8 0) ∧ i.size = 1 ∧ i.bytes = 1) (ho : OwnS (KInt .u8) E L w v xs) (ha : appb xs s = some zs) (hL : ∀ b ∈ ownB v, b ∈ L) :
    ∃ v' w', (∀ ty, (Builtin.append_ #[T, TS] ty #[v, .string ⟨s.toArray⟩]).run P w = .ok v' w') ∧ OwnS (KInt .u8) E (ownB v' ++ L) w' v' zs ∧ G (ownB v) w w' ∧ (∀ b ∈ ownB v', b ∈ ownB v ∨ w.heap.size ≤ b) := by
  unfold appb at ha
  split at ha
  case isFalse => cases ha
  rename_i hlim
  obtain rfl := Option.some.inj ha
  obtain ⟨i, hi, hz, h1s, h1b⟩ := hi
  obtain ⟨C, how, h1, h2⟩ := id ho
  have hlim2 : xs.length + s.length ≤ 549755813888 := by unfold lim at hlim; omega
  have h63 : xs.length + (⟨s.toArray⟩ : ByteArray).size ≤ maxLen := by rw [esz]; unfold maxLen; omega
  have hby : xs.length + (⟨s.toArray⟩ : ByteArray).size ≤ 140737488355328 := by rw [esz]; omega
  have ks : (KInt .u8).sz = 1 := rfl
  have hflat : C.flatten = xs.map (.int .u8) := int_flat h1 h2
  have fin : ∀ v' w', w'.ownsRow 0 E 1 v' (xs.length + (⟨s.toArray⟩ : ByteArray).size) (xs.map (.int .u8) ++ Lib.strCells ⟨s.toArray⟩) → w.grownBy w' v.ownBlock → (∀ b ∈ ownB v', b ∈ ownB v ∨ w.heap.size ≤ b) →
      OwnS (KInt .u8) E (ownB v' ++ L) w' v' (xs ++ nums s) ∧ G (ownB v) w w' ∧ (∀ b ∈ ownB v', b ∈ ownB v ∨ w.heap.size ≤ b) := by
    intro v' w' hown hg hf
    rw [strc, esz] at hown
    have hG : G (ownB v) w w' := ⟨hg.os, hg.tape, hg.output, hg.size, fun i hi hn => hg.block i hi (by
      intro e; apply hn
      cases v <;> simp [Value.ownBlock] at e
      rename_i A _ _
      cases A <;> simp at e
      simp [ownB, e])⟩
    have e : ((xs ++ nums s).map fun n => [Value.int .u8 n]).flatten = xs.map (.int .u8) ++ (nums s).map (.int .u8) := by
      rw [List.map_append, List.flatten_append]
      have key : ∀ l : List Int, (l.map fun n => [Value.int .u8 n]).flatten = l.map (.int .u8) := fun l => by induction l with | nil => rfl | cons a l ih => simp [ih]
      rw [key, key]
    refine ⟨⟨(xs ++ nums s).map fun n => [Value.int .u8 n], by rw [e, List.length_append, nums_len]; exact hown, by simp, fun i c x hc hx => ?_⟩, hG, hf⟩
    rw [List.getElem?_map, hx] at hc
    simp at hc
    exact hc.symm
  rw [ks, hflat] at how
  rcases how.2 with ⟨rfl, h0⟩ | ⟨g, cap, cur, rfl, hb0, hg, hn, hm, hs, htk⟩
  · have hk2 := fun ty => Lib.run_append_own_string (P := P) w w.heap.size T TS ty E i hT hI hi hz h1s h1b (.slice none 0 0) xs.length (xs.map (.int .u8)) ⟨how.1, .inl ⟨rfl, h0⟩⟩ ⟨s.toArray⟩ h63 hby (Nat.le_refl _)
    obtain ⟨v', w', hr0, ho0, hg0, _⟩ := hk2 0
    refine ⟨v', w', fun ty => hr0, fin v' w' ⟨ho0.1, ho0.2.imp id (fun ⟨g, cap, cur, a, b, r⟩ => ⟨g, cap, cur, a, Nat.zero_le _, r⟩)⟩ hg0 (fun b hb => .inr ?_)⟩
    rcases ho0.2 with ⟨rfl, _⟩ | ⟨g, cap, cur, rfl, hbg, _⟩
    · simp [ownB] at hb
    · simp [ownB] at hb; subst hb; exact hbg
  · obtain ⟨v', w', hr0, ho0, hg0, _⟩ := Lib.run_append_own_string (P := P) w 0 T TS 0 E i hT hI hi hz h1s h1b (.slice (some ⟨g, 0, none⟩) xs.length cap) xs.length (xs.map (.int .u8)) how ⟨s.toArray⟩ h63 hby (Nat.zero_le _)
    refine ⟨v', w', fun ty => hr0, fin v' w' ho0 hg0 (fun b hb => ?_)⟩
    by_cases hroom : xs.length + (⟨s.toArray⟩ : ByteArray).size ≤ cap
    · have := Lib.run_append_room_string (P := P) w T TS 0 E i hT hI hi h1s g xs.length cap cur hg ⟨s.toArray⟩ hroom (by rw [hs]; omega)
      rw [hr0] at this
      injection this with e1 _
      subst e1
      exact .inl hb
    · have hold : ∀ (j : Nat) (u : Value), (xs.map (Value.int .u8))[j]? = some u → w.cell? ((⟨g, 0, none⟩ : Addr).add j) = some u := how.cells (g := g) rfl
      have := Lib.run_append_grow_string (P := P) w T TS 0 E i (.int .u8 0) hT hI hi hz ⟨g, 0, none⟩ xs.length cap (xs.map (.int .u8)) (by rw [h1s]; exact how.1) hold ⟨s.toArray⟩ (by omega) (by have : maxLen = 9223372036854775807 := rfl; omega) (growslice_fits (by omega) (by rw [h1b]; omega))
      rw [hr0] at this
      injection this with e1 _
      subst e1
      simp [ownB] at hb; subst hb
      exact .inr (Nat.le_refl _)
theorem oAppS {Q : Exit → Act → World → Prop} {KK : Act → World → Prop} {gd : Option (Nat × Bool)} {a : Act} {N d : Nat} {pos : String} {af : Array Edge} {x y : Operand} {TS : TypeId} (hT : P.underlying T = some (.slice E)) (hI : P.underlying TS = some .string) (hi : ∃ i, P.info? E = some i ∧ i.zero = some (.int .u8 0) ∧ i.size = 1 ∧ i.bytes = 1) (z : Z N a) (hx : a.eval x = v) (hy : a.eval y = .string ⟨s.toArray⟩) (ho : OwnS (KInt .u8) E L w v xs) (ha : appb xs s = some zs) (hL : ∀ b ∈ ownB v, b ∈ L) (hd : Nat.ble (d + 1) N = true)
    (kk : ∀ a' v' w', Pt N a d v' a' → a'.eval (.tmp d) = v' → OwnS (KInt .u8) E (ownB v' ++ L) w' v' zs → G (ownB v) w w' → (∀ b ∈ ownB v', b ∈ ownB v ∨ w.heap.size ≤ b) → KK a' w') :
    Oper.wp P ⟨some d, .call { callee := .builtin .append, args := #[x, y], argTypes := #[T, TS] }, ty, pos, af, gd⟩ a w KK Q := by
  obtain ⟨v', w', hrun, h1, h2, h3⟩ := apps_run (P := P) hT hI hi ho ha hL
  unfold Oper.wp
  have e : (execOp a.eval ⟨some d, .call { callee := .builtin .append, args := #[x, y], argTypes := #[T, TS] }, ty, pos, af, gd⟩).run P w = .ok (.value v') w' := by
    simp [execOp, resolve, invoke, builtin, hx, hy, hrun ty]
  rw [e]
  exact kk _ _ _ (Pt.mk' z hd) (Pt.mk' z hd).n h1 h2 h3
/-- a strings.Builder's block: it may hold its own address; h: its buffer -/
def Bld (w : World) (b : Nat) (h : Value) (T : TypeId) : Prop := ∃ A, (A = .pointer none ∨ A = ptr b 0) ∧ Bk w b [A, h] T
theorem Bld.new (m : Bk w b [.pointer none, .slice none 0 0] T) : Bld w b (.slice none 0 0) T := ⟨_, .inl rfl, m⟩
theorem Bld.lt (h : Bld w b v T) : b < w.heap.size := by obtain ⟨A, _, m⟩ := h; exact m.lt
theorem Bld.g {S : List Nat} (h : Bld w b v T) (k : G S w w') (hn : b ∉ S) : Bld w' b v T := by obtain ⟨A, hA, m⟩ := h; exact ⟨A, hA, m.g k hn⟩
theorem Bld.g0 (h : Bld w b v T) (k : G [] w w') : Bld w' b v T := h.g k (by simp)
theorem Bld.g1 (h : Bld w b v T) (k : G [b'] w w') (hn : b ≠ b') : Bld w' b v T := h.g k (by simpa using hn)
theorem Bld.ne (m : Bld w b v T) {b' : Nat} (h : b' = w.heap.size) : b ≠ b' := by have := m.lt; omega
theorem Bld.no {B : List Nat} (m : Bld w b v T) (hn : b ∉ B) {u' : Value} (f : ∀ x ∈ ownB u', x ∈ B ∨ w.heap.size ≤ x) : b ∉ ownB u' := fun hm => by
  rcases f b hm with h | h
  · exact hn h
  · have := m.lt; omega
/-- a Builder and its row, as the library speaks of it -/
theorem Bld.is {B : Nat} (m : Bld w b v T) (q : OwnS (KInt .u8) E L w v xs) (hb : B ≤ b) (hv : ∀ x ∈ ownB v, B ≤ x) (hne : b ∉ ownB v) {l : List UInt8} (hl : xs = nums l) : Lib.IsBuilder T E B b (Lib.byteCells l) w := by
  obtain ⟨A, hA, m⟩ := m
  obtain ⟨C, how, h1, h2⟩ := q
  have hflat : C.flatten = xs.map (.int .u8) := int_flat h1 h2
  have e : Lib.byteCells l = xs.map (.int .u8) := by subst hl; simp [Lib.byteCells, nums]
  have how : w.ownsRow 0 E 1 v xs.length (xs.map (.int .u8)) := by rw [← hflat]; exact how
  have hrow : w.ownsRow B E 1 v (Lib.byteCells l).length (Lib.byteCells l) := by
    rw [e, List.length_map]
    refine ⟨how.1, ?_⟩
    rcases how.2 with h | ⟨g, cap, cur, rfl, _, r⟩
    · exact .inl h
    · exact .inr ⟨g, cap, cur, rfl, hv g (by simp [ownB]), r⟩
  have hb2 : v.ownBlock ≠ some b := by
    rcases how.2 with ⟨rfl, _⟩ | ⟨g, cap, cur, rfl, _⟩
    · simp [Value.ownBlock]
    · intro h
      simp [Value.ownBlock] at h
      exact hne (by simp [ownB, h])
  have mk : Lib.BuilderAt T E B b A (Lib.byteCells l) w := ⟨hb, v, m, hrow, hb2⟩
  rcases hA with rfl | rfl
  · exact .inl mk
  · exact .inr mk
theorem G.tb {w0 : World} (g : G [] w0 w) (h : Below w0.heap.size w w') : G [] w0 w' := ⟨h.os.trans g.os, h.tape.trans g.tape, h.output.trans g.output, Nat.le_trans g.sz h.size, fun i hi _ => (h.block i hi).trans (g.old i hi (by simp))⟩
end
end Go.Proofs.YtbfndihcbogjfaaDoor.Gx
