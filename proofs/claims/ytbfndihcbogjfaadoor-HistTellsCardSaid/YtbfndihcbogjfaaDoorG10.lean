/-
  Plain theorems, over any program: strings. Conditions: as said.
-/
import Derived.Test.YtbfndihcbogjfaaDoorG9
import Derived.Laws.BytesString
namespace Go.Proofs.YtbfndihcbogjfaaDoor.Gx
open Go Go.RowKit
section
variable {P : Program} {a : Act} {w : World} {x y : Operand} {ty T T2 E : TypeId} {k k2 : IntKind} {m n i : Int} {s t z : List UInt8}
theorem ba_get (s : List UInt8) (j : Nat) : (⟨s.toArray⟩ : ByteArray)[j]? = s[j]? := by
  by_cases h : j < s.length
  · have h2 : j < (⟨s.toArray⟩ : ByteArray).size := by simpa [ByteArray.size] using h
    rw [getElem?_pos (⟨s.toArray⟩ : ByteArray) j h2, List.getElem?_eq_getElem h]
    rfl
  · have h2 : ¬ j < (⟨s.toArray⟩ : ByteArray).size := by simpa [ByteArray.size] using h
    rw [getElem?_neg (⟨s.toArray⟩ : ByteArray) j h2, List.getElem?_eq_none (by omega)]
theorem okSIx {b : UInt8} (hT : P.underlying T = some .string) (hx : a.eval x = .string ⟨s.toArray⟩) (hy : a.eval y = .int k i) (h : ix s i = some b) : Ok P a w (.index T x y) ty (.int .u8 (b.toNat : Int)) := fun d pos af g => by
  unfold ix at h
  split at h
  case isFalse => cases h
  rename_i h0
  simp only [execOp, Instr.index, hx, hy, asIntOf, Sem.run_bind, Sem.run_pure, Result.andThen_ok, run_underlying hT, if_pos h0, ba_get, h]
theorem ba_ext (s : List UInt8) (l h : Nat) (hh : h ≤ s.length) : (⟨s.toArray⟩ : ByteArray).extract l h = ⟨((s.take h).drop l).toArray⟩ := by
  apply ByteArray.ext
  rw [ByteArray.data_extract]
  simp
  rw [List.drop_take]
theorem sslice_run {lo hi : Option Value} {l h : Int} (hT : P.underlying T = some .string)
    (hl : (lo = none ∧ l = 0) ∨ ∃ k, lo = some (.int k l)) (hh : (hi = none ∧ h = s.length) ∨ ∃ k, hi = some (.int k h)) (hb : 0 ≤ l ∧ l ≤ h ∧ h ≤ s.length) :
    (Instr.slice T (.string ⟨s.toArray⟩) lo hi none).run P w = .ok (.string ⟨((s.take h.toNat).drop l.toNat).toArray⟩) w := by
  have e1 : 0 ≤ h ∧ h ≤ (s.length : Int) := by omega
  have e2 : 0 ≤ l ∧ l ≤ (h.toNat : Int) := by omega
  have es : (⟨s.toArray⟩ : ByteArray).size = s.length := by simp [ByteArray.size]
  have ex : ∀ l h : Nat, h ≤ s.length → (⟨s.toArray⟩ : ByteArray).extract l h = ⟨((s.take h).drop l).toArray⟩ := fun l h hh => ba_ext s l h hh
  rcases hl with ⟨rfl, rfl⟩ | ⟨k1, rfl⟩ <;> rcases hh with ⟨rfl, rfl⟩ | ⟨k2, rfl⟩
  · simp [Instr.slice, Instr.sliceBounds, Instr.sliceBound, run_underlying hT, asIntOf, es, ex]
  · simp [Instr.slice, Instr.sliceBounds, Instr.sliceBound, run_underlying hT, asIntOf, es, e1]
    have hq := ex 0 h.toNat (by omega)
    simpa using hq
  · have e2 : 0 ≤ l ∧ l ≤ (s.length : Int) := by omega
    simp [Instr.slice, Instr.sliceBounds, Instr.sliceBound, run_underlying hT, asIntOf, es, e2]
    have := ex l.toNat s.length (Nat.le_refl _)
    simpa using this
  · have e3 : l ≤ max h 0 := by omega
    simp [Instr.slice, Instr.sliceBounds, Instr.sliceBound, run_underlying hT, asIntOf, es, e1, e2, e3]
    exact ex l.toNat h.toNat (by omega)
theorem okSSlc {lo hi : Option Operand} {l h : Int} (hT : P.underlying T = some .string) (hs : slc s l h = some z) (hx : a.eval x = .string ⟨s.toArray⟩)
    (hl : (lo.map a.eval = none ∧ l = 0) ∨ ∃ k, lo.map a.eval = some (.int k l)) (hh : (hi.map a.eval = none ∧ h = s.length) ∨ ∃ k, hi.map a.eval = some (.int k h)) : Ok P a w (.slice T x lo hi none) ty (.string ⟨z.toArray⟩) := fun d pos af g => by
  unfold slc at hs
  split at hs
  case isFalse => cases hs
  rename_i hb
  obtain rfl := Option.some.inj hs
  have h1 := sslice_run (P := P) (w := w) hT hl hh hb
  have h2 : (Instr.sliceAt T (.string ⟨s.toArray⟩) (lo.map a.eval) (hi.map a.eval) none).run P w = .ok (.string ⟨((s.take h.toNat).drop l.toNat).toArray⟩) w := by
    simp only [Instr.sliceAt, Sem.run_bind, run_underlying hT, Result.andThen_ok, h1]
  simp only [execOp, hx, Option.map_none]
  rw [Sem.run_bind, h2]
  rfl
/-- bytes, as a string -/
def bstr (xs : List Int) : List UInt8 := xs.map fun n => UInt8.ofNat n.toNat
theorem bstr_fold (xs : List Int) : ∀ (s : List UInt8), xs.foldl (fun r n => r.push (UInt8.ofNat n.toNat)) (⟨s.toArray⟩ : ByteArray) = ⟨(s ++ bstr xs).toArray⟩ := by
  induction xs with
  | nil => intro s; simp [bstr]
  | cons n xs ih =>
    intro s
    rw [List.foldl_cons]
    have e : (⟨s.toArray⟩ : ByteArray).push (UInt8.ofNat n.toNat) = ⟨(s ++ [UInt8.ofNat n.toNat]).toArray⟩ := by
      apply ByteArray.ext
      simp [ByteArray.push]
    rw [e, ih]
    simp [bstr]
theorem int_flat {k : IntKind} {L : List Nat} {w : World} : ∀ {xs : List Int} {CS : List (List Value)}, CS.length = xs.length → (∀ (i : Nat) (c : List Value) (x : Int), CS[i]? = some c → xs[i]? = some x → (KInt k).R L w c x) → CS.flatten = xs.map (.int k) := by
  intro xs
  induction xs with
  | nil => intro CS h _; obtain rfl := List.eq_nil_of_length_eq_zero h; rfl
  | cons x xs ih =>
    intro CS h hR
    cases CS with
    | nil => simp at h
    | cons c CS =>
      have h0 : c = [.int k x] := hR 0 c x rfl rfl
      rw [List.flatten_cons, List.map_cons, ih (by simpa using h) (fun i c x a b => hR (i + 1) c x (by simpa using a) (by simpa using b)), h0]
      rfl
theorem okB2S {v : Value} {xs : List Int} {L : List Nat} (hs : P.underlying T = some (.slice E)) (hd : P.underlying T2 = some .string) (he : P.underlying E = some (.int .u8)) (hx : a.eval x = v) (hr : Src (KInt .u8) L w v xs) : Ok P a w (.convert T T2 x) ty (.string ⟨(bstr xs).toArray⟩) := fun d pos af g => by
  obtain ⟨A, c, rfl, CS, hl, hR, hA⟩ := hr
  have hf := int_flat hl hR
  have e : (Conv.bytesToString (.slice A xs.length c)).run P w = .ok (.string ⟨(bstr xs).toArray⟩) w := by
    rcases hA with ⟨rfl, rfl, rfl⟩ | ⟨ad, rfl, hc⟩
    · rfl
    · rw [hf] at hc
      have h1 := run_loadCells_list (P := P) (w := w) ad (xs.map (.int .u8)) hc
      rw [List.length_map] at h1
      rw [run_bytesToString w ad xs.length c xs h1]
      have h2 : xs.foldl (fun r n => r.push (UInt8.ofNat n.toNat)) ByteArray.empty = ⟨(bstr xs).toArray⟩ := bstr_fold xs []
      rw [h2]
  simp [execOp, convert, run_underlying hs, run_underlying hd, run_underlying he, hx, e]
end
end Go.Proofs.YtbfndihcbogjfaaDoor.Gx
