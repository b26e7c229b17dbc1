/-
  Plain theorems, over any program: what came in, opened into the plain data of the walks. Conditions: none.
-/
import Derived.Test.YtbfndihcbogjfaaDoorG7
import Derived.WalkKit
import Derived.ProofKit
import Derived.OpenShut
import Derived.ChangeOld
import Derived.Below
import Derived.Carry
namespace Go.Proofs.YtbfndihcbogjfaaDoor.Gx
open Go Go.RowKit Go.ChangeShapes Go.WideShapes

/-- Whatever reads as a datum of type t is words of the kind K over some x that is well formed. -/
def Opn {α : Type} (P : Program) (t : TypeId) (K : Kd α) (wf : α → Prop) : Prop :=
  ∀ (H : Type) (enc : TypeId × Value → H) (w : World) (n : Nat) (cs : List Value) (y : DataW H × List MemPlace), DataW.trod enc P w 0 (fun _ => true) true n t cs = some y → ∃ x, K.R [] w cs x ∧ wf x
def wfI (k : IntKind) (n : Int) : Prop := (Lit.int k n).wf = true
section
variable {P : Program} {t e : TypeId} {k : IntKind} {α : Type} {K : Kd α} {wf : α → Prop} {w : World}
theorem opnI (ht : P.underlying t = some (.int k)) : Opn P t (KInt k) (wfI k) := fun H enc w n cs y h => by
  obtain ⟨m, rfl, _, hw⟩ := DataW.trod_int ht h
  exact ⟨m, rfl, hw⟩
theorem opnB (ht : P.underlying t = some .bool) : Opn P t KBool (fun _ => True) := fun H enc w n cs y h => by
  obtain ⟨m, rfl, _⟩ := DataW.trod_bool ht h
  exact ⟨m, rfl, trivial⟩
def wfS (s : List UInt8) : Prop := s.length ≤ maxLen
theorem opnS (ht : P.underlying t = some .string) : Opn P t KStr wfS := fun H enc w n cs y h => by
  obtain ⟨s, rfl, _, hs⟩ := DataW.trod_string ht h
  exact ⟨s.data.toList, rfl, by simpa [wfS] using hs⟩
/-- the words of an array of integers -/
def KAr (k : IntKind) (n : Nat) (hn : 0 < n) : Kd {l : List Int // l.length = n} := ⟨n, hn, fun _ _ cs x => cs = x.1.map (.int k), by rintro _ _ _ x rfl; simp [x.2], by
  rintro _ _ _ x rfl u hu
  obtain ⟨i, _, rfl⟩ := List.mem_map.1 hu
  rfl, fun _ h => h⟩
theorem opnA {n : Nat} (hn : 0 < n) (ht : P.underlying t = some (.array n e)) (he : P.underlying e = some (.int k)) (hc : P.cellsOf e = 1) (hct : P.cellsOf t = n) : Opn P t (KAr k n hn) (fun x => ∀ z ∈ x.1, wfI k z) := fun H enc w m cs y h => by
  obtain ⟨xs, m', _, _, hl, hxl, hf⟩ := DataW.trod_array ht h
  have key : ∀ i : Fin n, ∃ z : Int, cs[i.1]? = some (.int k z) ∧ wfI k z := fun ⟨i, hi⟩ => by
    have h1 := hf i hi
    have hx : i < xs.length := by omega
    rw [List.getElem?_eq_getElem hx] at h1
    obtain ⟨z, hz, _, hw⟩ := DataW.trod_int he h1
    refine ⟨z, ?_, hw⟩
    rw [hc, Nat.mul_one] at hz
    have : ((cs.drop i).take 1)[0]? = some (.int k z) := by rw [hz]; rfl
    simpa using this
  obtain ⟨f, hf⟩ := Classical.axiomOfChoice key
  refine ⟨⟨List.ofFn f, by simp⟩, ?_, fun z hz => ?_⟩
  · show cs = (List.ofFn f).map (.int k)
    apply List.ext_getElem?
    intro i
    by_cases hi : i < n
    · rw [(hf ⟨i, hi⟩).1]; simp [hi]
    · rw [List.getElem?_eq_none (by omega), List.getElem?_eq_none (by simp; omega)]
  · simp only [List.mem_ofFn] at hz
    obtain ⟨i, rfl⟩ := hz
    exact (hf i).2
/-- a slice -/
theorem opnSl (ht : P.underlying t = some (.slice e)) (o : Opn P e K wf) (hc : P.cellsOf e = K.sz) : Opn P t (KSl K) (fun xs => xs.length ≤ maxLen ∧ ∀ x ∈ xs, wf x) := fun H enc w m cs y h => by
  rcases DataW.trod_slice ht h with ⟨rfl, _⟩ | ⟨a, len, cap, elems, rest, n, _, rfl, _, _, hl, hm, hlen, hel, _, _⟩
  · exact ⟨[], ⟨_, rfl, RdS.nil⟩, by simp, by simp⟩
  have key : ∀ i : Fin len, ∃ xc : α × List Value, K.R [] w xc.2 xc.1 ∧ wf xc.1 ∧ w.cells? 0 (a.add (i.1 * K.sz)) K.sz = some xc.2 := fun ⟨i, hi⟩ => by
    have h1 := hel i hi
    have hx : i < elems.length := by omega
    rw [List.getElem?_eq_getElem hx, hc] at h1
    obtain ⟨cs, h2, h3⟩ := Option.bind_eq_some_iff.1 h1
    obtain ⟨x, h4, h5⟩ := o H enc w n cs _ h3
    exact ⟨(x, cs), h4, h5, h2⟩
  obtain ⟨f, hf⟩ := Classical.axiomOfChoice key
  refine ⟨List.ofFn fun i => (f i).1, ⟨_, rfl, some a, cap, by simp, by simpa using hl, hm, ?_⟩, by simp; omega, fun x hx => ?_⟩
  · by_cases h0 : len = 0
    · subst h0; exact .inl ⟨by simp, by simp⟩
    obtain ⟨b, off, spot⟩ := a
    have hpos := K.pos
    have hs : spot = none := by
      obtain ⟨h1, h2, h3⟩ := hf ⟨0, by omega⟩
      obtain ⟨_, hl3, h4⟩ := World.cells?_some h3
      have h5 := h4 0 hpos
      have : ∃ u, (f ⟨0, by omega⟩).2[0]? = some u := ⟨_, List.getElem?_eq_getElem (by omega)⟩
      obtain ⟨u, hu⟩ := this
      rw [hu] at h5
      simpa [Addr.add] using World.cell?_spot h5
    subst hs
    refine .inr ⟨b, off, fun i => if hi : i < len then (f ⟨i, hi⟩).2 else [], rfl, by simp, fun i x hx => ?_⟩
    have hi : i < len := by have := (List.getElem?_eq_some_iff.1 hx).1; simpa using this
    have hx' : (f ⟨i, hi⟩).1 = x := by simpa [hi] using hx
    obtain ⟨h1, h2, h3⟩ := hf ⟨i, hi⟩
    simp only [hi, dite_true]
    refine ⟨hx' ▸ h1, fun j u hu => ?_⟩
    obtain ⟨_, hl3, h4⟩ := World.cells?_some h3
    have hj : j < K.sz := by have := (List.getElem?_eq_some_iff.1 hu).1; omega
    have h5 := h4 j hj
    rw [hu] at h5
    rw [add_eq, add_eq] at h5
    exact h5
  · simp only [List.mem_ofFn] at hx
    obtain ⟨i, rfl⟩ := hx
    exact (hf i).2.1
/-- a field of a struct -/
theorem opnF {H : Type} {enc : TypeId × Value → H} {fs : Array Field} {n : Nat} {cs : List Value} {xs : List (DataW H × List MemPlace)} (hf : ∀ (i : Nat) (f : Field), fs[i]? = some f → DataW.trod enc P w 0 (fun _ => true) true n f.type ((cs.drop f.offset).take (P.cellsOf f.type)) = xs[i]?) (hl : xs.length = fs.size)
    (i t off sz : Nat) (hi : (fs[i]?).map (fun f => (f.type, f.offset)) = some (t, off)) (hs : P.cellsOf t = sz) (o : Opn P t K wf) : ∃ x, K.R [] w ((cs.drop off).take sz) x ∧ wf x := by
  obtain ⟨f, hfi, he⟩ := Option.map_eq_some_iff.1 hi
  simp only [Prod.mk.injEq] at he
  obtain ⟨rfl, rfl⟩ := he
  subst hs
  have h1 := hf i f hfi
  have hx : i < xs.length := by rw [hl]; exact (Array.getElem?_eq_some_iff.1 hfi).1
  rw [List.getElem?_eq_getElem hx] at h1
  exact o _ _ _ _ _ _ h1
/-- an argument of a struct type -/
theorem argA {H : Type} {enc : TypeId × Value → H} {fs : Array Field} {v : Value} {d : DataW H} {ps : List MemPlace} {base : Nat} (ht : P.underlying t = some (.struct fs)) (o : Opn P t K wf) (hv : Value.okWide P w .any base t v) (h : DataW.Trod enc P w 0 (fun _ => true) true t v d ps) : ∃ cs x, v = .agg (List.toArray cs) ∧ K.R [] w cs x ∧ wf x := by
  obtain ⟨cs, rfl, _⟩ := okWide_struct ht hv
  obtain ⟨n, hf⟩ := h
  obtain ⟨x, h1, h2⟩ := o _ _ _ _ _ _ hf
  exact ⟨cs.toList, x, by simp, h1, h2⟩
/-- an argument that is a slice -/
theorem argS {H : Type} {enc : TypeId × Value → H} {v : Value} {d : DataW H} {ps : List MemPlace} {base : Nat} {wl : List α → Prop} (ht : P.underlying t = some (.slice e)) (o : Opn P t (KSl K) wl) (hv : Value.okWide P w .any base t v) (h : DataW.Trod enc P w 0 (fun _ => true) true t v d ps) : ∃ xs, RdS K [] w v xs ∧ wl xs := by
  obtain ⟨A, len, cap, rfl⟩ := okWide_slice ht hv
  obtain ⟨n, hf⟩ := h
  obtain ⟨xs, ⟨v, h1, h2⟩, h3⟩ := o _ _ _ _ _ _ hf
  have : v = .slice A len cap := by simpa [Value.cells] using h1.symm
  subst this
  exact ⟨xs, h2, h3⟩
end
theorem len_cons {α : Type} {cs : List α} {n : Nat} (h : cs.length = n + 1) : ∃ c r, cs = c :: r ∧ r.length = n := by
  cases cs with
  | nil => simp at h
  | cons c r => exact ⟨c, r, rfl, by simpa using h⟩
end Go.Proofs.YtbfndihcbogjfaaDoor.Gx
