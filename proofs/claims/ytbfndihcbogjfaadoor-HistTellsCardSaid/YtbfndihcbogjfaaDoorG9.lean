/-
  Plain theorems, over any program: division, shifts. Conditions: as said.
-/
import Derived.Test.YtbfndihcbogjfaaDoorG8
namespace Go.Proofs.YtbfndihcbogjfaaDoor.Gx
open Go Go.RowKit
section
variable {P : Program} {a : Act} {w : World} {x y : Operand} {ty T T2 : TypeId} {k k2 : IntKind} {m n : Int}
theorem okQuo (hx : a.eval x = .int k m) (hy : a.eval y = .int k n) (h : n ≠ 0) : Ok P a w (.binOp .quo T x y T2) ty (.int k (k.wrap (m.tdiv n))) := fun d pos af g => by simp [execOp, eqGuard, binOp, hx, hy, Op.intDiv, h]
theorem okRem (hx : a.eval x = .int k m) (hy : a.eval y = .int k n) (h : n ≠ 0) : Ok P a w (.binOp .rem T x y T2) ty (.int k (m.tmod n)) := fun d pos af g => by simp [execOp, eqGuard, binOp, hx, hy, Op.intDiv, h]
def bShr (k : IntKind) (m n : Int) : Int := m.fdiv (2 ^ (min n.toNat k.bits))
def bShl (k : IntKind) (m n : Int) : Int := k.wrap (m * 2 ^ (min n.toNat k.bits))
theorem okShr (hx : a.eval x = .int k m) (hy : a.eval y = .int k2 n) (h : 0 ≤ n) : Ok P a w (.binOp .shr T x y T2) ty (.int k (bShr k m n)) := fun d pos af g => by
  have : ¬ n < 0 := by omega
  simp [execOp, eqGuard, binOp, hx, hy, Op.shift, this, bShr]
theorem okShl (hx : a.eval x = .int k m) (hy : a.eval y = .int k2 n) (h : 0 ≤ n) : Ok P a w (.binOp .shl T x y T2) ty (.int k (bShl k m n)) := fun d pos af g => by
  have : ¬ n < 0 := by omega
  simp [execOp, eqGuard, binOp, hx, hy, Op.shift, this, bShl]
theorem pbn {l : List (Nat × Operand)} {vs : List (Nat × Value)} (h : l.map (fun p => (p.1, a.eval p.2)) = vs) : (l.toArray).map (fun p => (p.1, a.eval p.2)) = vs.toArray := by subst h; simp
theorem pcN : ([] : List (Nat × Operand)).map (fun p => (p.1, a.eval p.2)) = [] := rfl
theorem pcC {i : Nat} {x : Operand} {v : Value} {l : List (Nat × Operand)} {vs : List (Nat × Value)} (h : a.eval x = v) (k : l.map (fun p => (p.1, a.eval p.2)) = vs) : ((i, x) :: l).map (fun p => (p.1, a.eval p.2)) = (i, v) :: vs := by subst h k; rfl
/-- an operation that leaves the world alone, as one that comes in its turn -/
theorem oOk {KK : Act → World → Prop} {Q : Exit → Act → World → Prop} {gd : Option (Nat × Bool)} {pos : String} {af : Array Edge} {N d : Nat} {op : Op} {v : Value} (z : Z N a) (h : Ok P a w op ty v) (hd : Nat.ble (d + 1) N = true) (k : ∀ a', Pt N a d v a' → a'.eval (.tmp d) = v → KK a' w) : Oper.wp P ⟨some d, op, ty, pos, af, gd⟩ a w KK Q := by
  unfold Oper.wp
  rw [h]
  exact k _ (Pt.mk' z hd) (Pt.mk' z hd).n
/-- two strings, one behind the other -/
def sapp (x y : List UInt8) : Option (List UInt8) := if x.length + y.length ≤ lim then some (x ++ y) else none
theorem okSAdd {s t r : List UInt8} (hx : a.eval x = .string ⟨s.toArray⟩) (hy : a.eval y = .string ⟨t.toArray⟩) (h : sapp s t = some r) : Ok P a w (.binOp .add T x y T2) ty (.string ⟨r.toArray⟩) := fun d pos af g => by
  unfold sapp at h
  split at h
  case isFalse => cases h
  rename_i hl
  obtain rfl := Option.some.inj h
  have e : (⟨s.toArray⟩ : ByteArray) ++ ⟨t.toArray⟩ = ⟨(s ++ t).toArray⟩ := by
    apply ByteArray.ext
    simp
  have e1 : (⟨s.toArray⟩ : ByteArray).size = s.length := by simp [ByteArray.size]
  have e2 : (⟨t.toArray⟩ : ByteArray).size = t.length := by simp [ByteArray.size]
  have hn : ¬ (((s.length + t.length : Nat) : Int) > IntKind.i64.max) := by
    have : IntKind.i64.max = 9223372036854775807 := rfl
    unfold lim at hl
    omega
  simp only [execOp, eqGuard, binOp, hx, hy, Op.stringOp, e1, e2, e]
  rw [if_neg hn]
  rfl
end
end Go.Proofs.YtbfndihcbogjfaaDoor.Gx
