/-
  Plain theorems, over any program: '==' of structs and arrays, slices against nil, function values. Conditions: none.
-/
import Derived.Test.YtbfndihcbogjfaaDoorG5
namespace Go.Proofs.YtbfndihcbogjfaaDoor.Gx
open Go Go.RowKit
section
variable {P : Program} {w : World} {a : Act} {x y : Operand} {d T T2 ty off n : Nat} {cs ds l l' : List Value} {u v : Value} {f : Field} {fs : List Field} {r s : Bool}
theorem part1 {cs : List Value} (h : NA P T) (hv : cs[off]? = some v) : (part T cs.toArray off).run P w = .ok v w := by
  simp only [part, Sem.run_bind, h w, Result.andThen_ok, Bool.false_eq_true, if_false, List.getElem?_toArray, hv, Sem.run_pure]
theorem partA {cs : List Value} (h : AG P T n) (hv : (cs.drop off).take n = l) : (part T cs.toArray off).run P w = .ok (.agg l.toArray) w := by
  simp only [part, Sem.run_bind, h.1 w, h.2 w, Result.andThen_ok, if_true, Sem.run_pure]
  subst hv
  simp [List.extract_toArray, List.extract_eq_take_drop]
theorem eqn : (Op.eqFields d cs.toArray ds.toArray []).run P w = .ok true w := rfl
theorem eqc (hn : (f.name == "_") = false) (ha : (part f.type cs.toArray f.offset).run P w = .ok u w) (hb : (part f.type ds.toArray f.offset).run P w = .ok v w) (he : (Op.equalIn d f.type u v).run P w = .ok r w) (hr : (Op.eqFields d cs.toArray ds.toArray fs).run P w = .ok s w) : (Op.eqFields d cs.toArray ds.toArray (f :: fs)).run P w = .ok (r && s) w := by
  have hn' : f.name ≠ "_" := by simpa using hn
  rw [Op.eqFields, if_pos hn']
  simp only [Sem.run_bind, ha, hb, he, Result.andThen_ok]
  cases r
  · simp
  · simpa using hr
theorem eqS {fs : Array Field} (hu : P.underlying T = some (.struct fs)) (hp : P.stoodInHeld T = false) (h : (Op.eqFields d cs.toArray ds.toArray fs.toList).run P w = .ok r w) : (Op.equalIn (d + 1) T (.agg cs.toArray) (.agg ds.toArray)).run P w = .ok r w := by
  have hf : P.fieldsOf T = fs := by simp [Program.fieldsOf, hu]
  rw [run_equalIn_struct (P := P) w d T _ _ (by rw [hf]; exact hu) hp, hf]
  exact h
theorem eqI {k k' : IntKind} {m n : Int} (hu : P.underlying T = some (.int k')) : (Op.equalIn (d + 1) T (.int k m) (.int k n)).run P w = .ok (m == n) w := run_equalIn_int w d T k k' m n hu
theorem eqB {m n : Bool} (hu : P.underlying T = some .bool) : (Op.equalIn (d + 1) T (.bool m) (.bool n)).run P w = .ok (m == n) w := equalIn_bool d hu
theorem str_eq (m n : List UInt8) : (((⟨m.toArray⟩ : ByteArray)).toList == ((⟨n.toArray⟩ : ByteArray)).toList) = (m == n) := by
  rw [ByteArray.toList_eq, ByteArray.toList_eq]
theorem eqStr {m n : List UInt8} (hu : P.underlying T = some .string) : (Op.equalIn (d + 1) T (.string ⟨m.toArray⟩) (.string ⟨n.toArray⟩)).run P w = .ok (m == n) w := by
  rw [run_equalIn_string w d T _ _ hu, str_eq]
theorem frO {B : List Nat} {n : Nat} (h : ∀ x ∈ B, x ∈ ([] : List Nat) ∨ n ≤ x) : ∀ x ∈ B, n ≤ x := fun x hx => (h x hx).elim (fun h => nomatch h) id
def eqV : Value → Value → Bool
  | .int _ m, .int _ n => m == n
  | _, _ => false
/-- '==' of arrays of words, one behind the other -/
def eqL (R : Value → Value → Bool) : List Value → List Value → Bool
  | c :: cs, e :: es => R c e && eqL R cs es
  | _, _ => true
theorem eqA {R : Value → Value → Bool} {E : Nat} (hu : P.underlying T = some (.array n E)) (hE : NA P E) (hs : ∀ w, (sizeOf E).run P w = .ok 1 w) (hc : cs.length = n) (hd : ds.length = n) (h : ∀ (i : Nat) (c e : Value), cs[i]? = some c → ds[i]? = some e → ∀ w, (Op.equalIn d E c e).run P w = .ok (R c e) w) :
    (Op.equalIn (d + 1) T (.agg cs.toArray) (.agg ds.toArray)).run P w = .ok (eqL R cs ds) w := by
  subst hc
  simp only [Op.equalIn, Sem.run_bind, run_underlying hu, Result.andThen_ok, hs]
  rw [Std.Legacy.Range.forIn_eq_forIn_range']
  simp only [Std.Legacy.Range.size, Nat.sub_zero, Nat.add_sub_cancel, Nat.div_one, Nat.mul_one]
  suffices H : ∀ (k i : Nat), i + k = cs.length → ((Sem.run P (forIn (List.range' i k) ((none, ()) : Option Bool × Unit) fun j _ => do
        let u ← part E cs.toArray j
        let v ← part E ds.toArray j
        let b ← Op.equalIn d E u v
        if (!b) = true then pure (ForInStep.done (some false, ())) else pure (ForInStep.yield (none, ()))) w).andThen fun a w' => Sem.run P (match a.fst with
          | some r => pure r
          | none => pure true) w') = .ok (eqL R (cs.drop i) (ds.drop i)) w by
    have := H cs.length 0 (by omega)
    simp only [List.drop_zero] at this
    refine Eq.trans ?_ this
    congr 1
    funext a w'
    obtain ⟨o, _⟩ := a
    cases o <;> rfl
  intro k
  induction k with
  | zero =>
    intro i hi
    rw [List.drop_of_length_le (by omega)]
    simp [eqL]
  | succ k ih =>
    intro i hi
    have h1 : i < cs.length := by omega
    have h2 : i < ds.length := by omega
    rw [List.drop_eq_getElem_cons h1, List.drop_eq_getElem_cons h2]
    simp only [List.range'_succ, List.forIn_cons, bind_assoc, Sem.run_bind, part1 (P := P) hE (List.getElem?_eq_getElem h1), part1 (P := P) hE (List.getElem?_eq_getElem h2), Result.andThen_ok, h i _ _ (List.getElem?_eq_getElem h1) (List.getElem?_eq_getElem h2), eqL]
    cases hR : R cs[i] ds[i]
    · simp
    · have := ih (i + 1) (by omega)
      simpa using this
theorem okSEq (hg : P.eqGuardType P.depth T = false) (hx : a.eval x = .agg cs.toArray) (hy : a.eval y = .agg ds.toArray) (h : ∀ w, (Op.equalIn 10000 T (.agg cs.toArray) (.agg ds.toArray)).run P w = .ok r w) : Ok P a w (.binOp .eql T x y T2) ty (.bool r) := fun d pos af gd => by
  simp only [execOp, Sem.run_bind, hx, hy, run_eqGuard_agg _ _ _ _ _ _ _ hg, Result.andThen_ok, run_eql_struct, h, Sem.run_pure]
theorem okSNe (hg : P.eqGuardType P.depth T = false) (hx : a.eval x = .agg cs.toArray) (hy : a.eval y = .agg ds.toArray) (h : ∀ w, (Op.equalIn 10000 T (.agg cs.toArray) (.agg ds.toArray)).run P w = .ok r w) : Ok P a w (.binOp .neq T x y T2) ty (.bool (!r)) := fun d pos af gd => by
  simp only [execOp, Sem.run_bind, hx, hy, run_eqGuard_agg _ _ _ _ _ _ _ hg, Result.andThen_ok, run_neq_struct, h, Sem.run_pure]
theorem okStrEq {m n : List UInt8} (hx : a.eval x = .string ⟨m.toArray⟩) (hy : a.eval y = .string ⟨n.toArray⟩) : Ok P a w (.binOp .eql T x y T2) ty (.bool (m == n)) := fun d pos af gd => by
  simp only [execOp, eqGuard, binOp, hx, hy, Op.stringOp, str_eq]; rfl
theorem okStrNe {m n : List UInt8} (hx : a.eval x = .string ⟨m.toArray⟩) (hy : a.eval y = .string ⟨n.toArray⟩) : Ok P a w (.binOp .neq T x y T2) ty (.bool (m != n)) := fun d pos af gd => by
  simp only [execOp, eqGuard, binOp, hx, hy, Op.stringOp, str_eq]; rfl
/-- a slice against nil -/
theorem okNilT {E : Nat} (hT : P.underlying T = some (.slice E)) (hx : a.eval x = .slice none 0 0) : Ok P a w (.binOp .eql T x (.const (.slice none 0 0)) T2) ty (.bool true) := fun d pos af gd => by
  have e : ∀ d, (Op.equalIn (d + 1) T (.slice none 0 0) (.slice none 0 0)).run P w = .ok true w := fun d => by simp [Op.equalIn, run_underlying hT]
  have e2 : (Op.equal T (.slice none 0 0) (.slice none 0 0)).run P w = .ok true w := e 9999
  simp [execOp, eqGuard, binOp, hx, cst, e2]
theorem okNilF {E : Nat} {ad : Addr} {c : Nat} (hT : P.underlying T = some (.slice E)) (hx : a.eval x = .slice (some ad) n c) : Ok P a w (.binOp .eql T x (.const (.slice none 0 0)) T2) ty (.bool false) := fun d pos af gd => by
  have e : ∀ d, (Op.equalIn (d + 1) T (.slice (some ad) n c) (.slice none 0 0)).run P w = .ok false w := fun d => by simp [Op.equalIn, run_underlying hT]
  have e2 : (Op.equal T (.slice (some ad) n c) (.slice none 0 0)).run P w = .ok false w := e 9999
  simp [execOp, eqGuard, binOp, hx, cst, e2]
theorem RdS.nilOr {α : Type} {K : Kd α} {L : List Nat} {xs : List α} (h : RdS K L w v xs) : (v = .slice none 0 0 ∧ xs = []) ∨ ∃ ad n c, v = .slice (some ad) n c := by
  obtain ⟨A, cap, rfl, h1, h2, h3⟩ := h
  cases A with
  | none =>
    rcases h3 with ⟨rfl, h0⟩ | ⟨b, off, C, e, _⟩
    · exact .inl ⟨by rw [h0 rfl]; rfl, rfl⟩
    · cases e
  | some ad => exact .inr ⟨ad, _, _, rfl⟩
end
end Go.Proofs.YtbfndihcbogjfaaDoor.Gx
