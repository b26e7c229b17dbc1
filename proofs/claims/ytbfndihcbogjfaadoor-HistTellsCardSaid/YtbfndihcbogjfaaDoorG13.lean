/-
  Plain theorems, over any program: errors; pointers that may be nil. Conditions: as said.
-/
import Derived.Test.YtbfndihcbogjfaaDoorG12
namespace Go.Proofs.YtbfndihcbogjfaaDoor.Gx
open Go Go.RowKit
/-- an error: none, a Code, or a Spot at a place with a Code -/
inductive Er where
  | nil
  | code (n : Int)
  | spot (at_ n : Int)
deriving DecidableEq, Inhabited
/-- what stands for it: cd, sp: the types Code and *Spot -/
def ErG (cd sp : TypeId) (L : List Nat) (w : World) (v : Value) : Er → Prop
  | .nil => v = .nilIface
  | .code n => v = .iface cd (.int .i64 n)
  | .spot a n => ∃ b, v = .iface sp (ptr b 0) ∧ b ∉ L ∧ Cl w b 0 [.int .i64 a, .iface cd (.int .i64 n)]
section
variable {P : Program} {a : Act} {w w' : World} {x y : Operand} {v u : Value} {ty T T2 cd sp E : TypeId} {L L' : List Nat} {e e' : Er} {n : Int} {b o : Nat}
theorem ErG.mono (t : Tr L w L' w') (h : ErG cd sp L w v e) : ErG cd sp L' w' v e := by
  cases e with
  | nil => exact h
  | code n => exact h
  | spot a n =>
    obtain ⟨b, rfl, hb, hc⟩ := h
    have hlt := cell_lt (hc 0 _ rfl)
    exact ⟨b, rfl, fun hm => (t.2.2 b hm).elim hb (fun h => by omega), hc.tr t hb⟩
theorem ErG.one (h : ErG cd sp L w v e) : v.oneCell' = true := by
  cases e with
  | nil => subst h; rfl
  | code n => subst h; rfl
  | spot a n => obtain ⟨b, rfl, _⟩ := h; rfl
theorem ErG.cells (h : ErG cd sp L w v e) : v.cells = [v].toArray := by
  cases e with
  | nil => subst h; rfl
  | code n => subst h; rfl
  | spot a n => obtain ⟨b, rfl, _⟩ := h; rfl
theorem ErG.nil : ErG cd sp L w .nilIface .nil := rfl
theorem ErG.code : ErG cd sp L w (.iface cd (.int .i64 n)) (.code n) := rfl
/-- the facts of the types -/
structure EF (P : Program) (T cd sp : TypeId) : Prop where
  it : ∃ ms, P.underlying T = some (.interface ms)
  cu : P.underlying cd = some (.int .i64)
  ci : ∃ i, P.info? cd = some i ∧ i.comparable = true
  ne : cd ≠ sp
def Er.isN : Er → Bool
  | .nil => true
  | _ => false
theorem equalIn_nilI (d : Nat) (f : EF P T cd sp) (h : ErG cd sp L w v e) (w0 : World) : (Op.equalIn (d + 1) T v .nilIface).run P w0 = .ok e.isN w0 := by
  obtain ⟨ms, hT⟩ := f.it
  cases e with
  | nil => subst h; simp [Op.equalIn, run_underlying hT, Er.isN]
  | code n => subst h; simp [Op.equalIn, run_underlying hT, Er.isN]
  | spot a n => obtain ⟨b, rfl, _⟩ := h; simp [Op.equalIn, run_underlying hT, Er.isN]
theorem equal_nilI (f : EF P T cd sp) (h : ErG cd sp L w v e) (w0 : World) : (Op.equal T v .nilIface).run P w0 = .ok e.isN w0 := equalIn_nilI 9999 f h w0
theorem okEEqN (f : EF P T cd sp) (hx : a.eval x = v) (h : ErG cd sp L w v e) : ∀ w0, Ok P a w0 (.binOp .eql T x (.const .nilIface) T2) ty (.bool e.isN) := by
  intro w0 d pos af g
  have hq := equal_nilI f h w0
  have hk : a.eval (.const .nilIface) = .nilIface := rfl
  cases e with
  | nil => subst h; simp [execOp, eqGuard, binOp, hx, hk, hq]
  | code n => subst h; simp [execOp, eqGuard, binOp, hx, hk, hq]
  | spot a n => obtain ⟨b, rfl, _⟩ := h; simp [execOp, eqGuard, binOp, hx, hk, hq]
theorem okENeN (f : EF P T cd sp) (hx : a.eval x = v) (h : ErG cd sp L w v e) : ∀ w0, Ok P a w0 (.binOp .neq T x (.const .nilIface) T2) ty (.bool (!e.isN)) := by
  intro w0 d pos af g
  have hq := equal_nilI f h w0
  have hk : a.eval (.const .nilIface) = .nilIface := rfl
  cases e with
  | nil => subst h; simp [execOp, eqGuard, binOp, hx, hk, hq]
  | code n => subst h; simp [execOp, eqGuard, binOp, hx, hk, hq]
  | spot a n => obtain ⟨b, rfl, _⟩ := h; simp [execOp, eqGuard, binOp, hx, hk, hq]
theorem equalIn_code (d : Nat) (f : EF P T cd sp) (h : ErG cd sp L w v e) (w0 : World) : (Op.equalIn (d + 1 + 1) T v (.iface cd (.int .i64 n))).run P w0 = .ok (decide (e = .code n)) w0 := by
  obtain ⟨ms, hT⟩ := f.it
  obtain ⟨i, hi, hc⟩ := f.ci
  have hu := f.cu
  have hti : (typeInfo cd).run P w0 = .ok i w0 := by simp [typeInfo, hi]
  have hI (m : Int) : (Op.equalIn (d + 1) cd (.int .i64 m) (.int .i64 n)).run P w0 = .ok (m == n) w0 := by simp [Op.equalIn, run_underlying hu]
  rw [Op.equalIn]
  simp only [Sem.run_bind, run_underlying hT, Result.andThen_ok]
  cases e with
  | nil => subst h; simp
  | code m =>
    subst h
    simp [hti, hc, hI]
    rfl
  | spot a m =>
    obtain ⟨b, rfl, _⟩ := h
    have := f.ne
    simp [Ne.symm this]
theorem equal_code (f : EF P T cd sp) (h : ErG cd sp L w v e) (w0 : World) : (Op.equal T v (.iface cd (.int .i64 n))).run P w0 = .ok (decide (e = .code n)) w0 := equalIn_code 9998 f h w0
theorem okEEqC (f : EF P T cd sp) (hx : a.eval x = v) (h : ErG cd sp L w v e) (hy : a.eval y = .iface cd (.int .i64 n)) : ∀ w0, Ok P a w0 (.binOp .eql T x y T2) ty (.bool (decide (e = .code n))) := by
  intro w0 d pos af g
  have hq := equal_code (n := n) f h w0
  cases e with
  | nil => subst h; simp [execOp, eqGuard, binOp, hx, hy, hq]
  | code n => subst h; simp [execOp, eqGuard, binOp, hx, hy, hq]
  | spot a n => obtain ⟨b, rfl, _⟩ := h; simp [execOp, eqGuard, binOp, hx, hy, hq]
theorem okENeC (f : EF P T cd sp) (hx : a.eval x = v) (h : ErG cd sp L w v e) (hy : a.eval y = .iface cd (.int .i64 n)) : ∀ w0, Ok P a w0 (.binOp .neq T x y T2) ty (.bool (!decide (e = .code n))) := by
  intro w0 d pos af g
  have hq := equal_code (n := n) f h w0
  cases e with
  | nil => subst h; simp [execOp, eqGuard, binOp, hx, hy, hq]
  | code n => subst h; simp [execOp, eqGuard, binOp, hx, hy, hq]
  | spot a n => obtain ⟨b, rfl, _⟩ := h; simp [execOp, eqGuard, binOp, hx, hy, hq]
theorem okMkI {k : IntKind} (hT : P.underlying T = some (.int k)) (hx : a.eval x = v) : ∀ w0, Ok P a w0 (.makeInterface T x) ty (.iface T v) := fun w0 d pos af g => by
  simp [execOp, Instr.makeInterface, run_underlying hT, hx]
/-- pointers and nil -/
theorem equalP (hT : P.underlying T = some (.pointer E)) : (Op.equal T (ptr b o) (.pointer none)).run P w = .ok false w := by
  have h (d : Nat) : (Op.equalIn (d + 1) T (ptr b o) (.pointer none)).run P w = .ok false w := by simp [Op.equalIn, run_underlying hT, ptr]
  exact h 9999
theorem equalPN (hT : P.underlying T = some (.pointer E)) : (Op.equal T (.pointer none) (.pointer none)).run P w = .ok true w := by
  have h (d : Nat) : (Op.equalIn (d + 1) T (.pointer none) (.pointer none)).run P w = .ok true w := by simp [Op.equalIn, run_underlying hT]
  exact h 9999
theorem okPEq (hT : P.underlying T = some (.pointer E)) (hx : a.eval x = ptr b o) (hy : a.eval y = .pointer none) : Ok P a w (.binOp .eql T x y T2) ty (.bool false) := fun d pos af g => by
  have := equalP (w := w) (b := b) (o := o) hT
  simp [execOp, eqGuard, binOp, hx, hy, this]
theorem okPNe (hT : P.underlying T = some (.pointer E)) (hx : a.eval x = ptr b o) (hy : a.eval y = .pointer none) : Ok P a w (.binOp .neq T x y T2) ty (.bool true) := fun d pos af g => by
  have := equalP (w := w) (b := b) (o := o) hT
  simp [execOp, eqGuard, binOp, hx, hy, this]
theorem okNEq (hT : P.underlying T = some (.pointer E)) (hx : a.eval x = .pointer none) (hy : a.eval y = .pointer none) : Ok P a w (.binOp .eql T x y T2) ty (.bool true) := fun d pos af g => by
  have := equalPN (w := w) hT
  simp [execOp, eqGuard, binOp, hx, hy, this]
theorem okNNe (hT : P.underlying T = some (.pointer E)) (hx : a.eval x = .pointer none) (hy : a.eval y = .pointer none) : Ok P a w (.binOp .neq T x y T2) ty (.bool false) := fun d pos af g => by
  have := equalPN (w := w) hT
  simp [execOp, eqGuard, binOp, hx, hy, this]
theorem oNS {α : Type} (o : Option α) : o = none ∨ ∃ y, o = some y := by cases o <;> simp
end
end Go.Proofs.YtbfndihcbogjfaaDoor.Gx
