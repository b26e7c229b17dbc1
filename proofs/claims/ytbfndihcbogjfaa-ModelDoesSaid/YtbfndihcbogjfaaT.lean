/-
  The plain types of the walks, and their words. Conditions: none.
-/
import Derived.Test.YtbfndihcbogjfaaG8
import Derived.KernelRfl
import Derived.Test.YtbfndihcbogjfaaRows
namespace Go.Proofs.Ytbfndihcbogjfaa
open Go Go.RowKit Go.Proofs.Ytbfndihcbogjfaa.Gx
structure TWaiter where
  thread : Int
  holds : Int

def TWaiter.C (x : TWaiter) : List Value := [.int .i64 x.thread, .int .i64 x.holds]

def TWaiter.eqb (x y : TWaiter) : Bool := (x.thread == y.thread) && ((x.holds == y.holds) && true)

theorem TWaiter.eqb_iff (x y : TWaiter) : x.eqb y = true ↔ x = y := by
  obtain ⟨x0, x1⟩ := x
  obtain ⟨y0, y1⟩ := y
  simp [TWaiter.eqb]

theorem TWaiter.C_one (x : TWaiter) : ∀ u ∈ x.C, u.oneCell' = true := by
  intro u hu
  simp only [TWaiter.C, List.mem_cons, List.not_mem_nil, or_false] at hu
  rcases hu with rfl | rfl <;> first | rfl

def KTWaiter : Kd TWaiter where
  sz := 2
  pos := by decide
  R L w cs x := cs = x.C
  len := by rintro L w cs x rfl; rfl
  one := by
    rintro L w cs x rfl
    exact TWaiter.C_one x
  mono := fun t h => h

structure Arr8 where
  a0 : Int
  a1 : Int
  a2 : Int
  a3 : Int
  a4 : Int
  a5 : Int
  a6 : Int
  a7 : Int

def Arr8.zero : Arr8 := ⟨0, 0, 0, 0, 0, 0, 0, 0⟩

def Arr8.C (x : Arr8) : List Value := [.int .i64 x.a0, .int .i64 x.a1, .int .i64 x.a2, .int .i64 x.a3, .int .i64 x.a4, .int .i64 x.a5, .int .i64 x.a6, .int .i64 x.a7]

def Arr8.get (x : Arr8) (i : Int) : Int := if i = 0 then x.a0 else if i = 1 then x.a1 else if i = 2 then x.a2 else if i = 3 then x.a3 else if i = 4 then x.a4 else if i = 5 then x.a5 else if i = 6 then x.a6 else x.a7

def Arr8.set (x : Arr8) (i v : Int) : Arr8 := ⟨if i = 0 then v else x.a0, if i = 1 then v else x.a1, if i = 2 then v else x.a2, if i = 3 then v else x.a3, if i = 4 then v else x.a4, if i = 5 then v else x.a5, if i = 6 then v else x.a6, if i = 7 then v else x.a7⟩

def Arr8.eqb (x y : Arr8) : Bool := (x.a0 == y.a0) && ((x.a1 == y.a1) && ((x.a2 == y.a2) && ((x.a3 == y.a3) && ((x.a4 == y.a4) && ((x.a5 == y.a5) && ((x.a6 == y.a6) && ((x.a7 == y.a7) && true)))))))

theorem Arr8.eqb_iff (x y : Arr8) : x.eqb y = true ↔ x = y := by
  obtain ⟨x0, x1, x2, x3, x4, x5, x6, x7⟩ := x
  obtain ⟨y0, y1, y2, y3, y4, y5, y6, y7⟩ := y
  simp [Arr8.eqb]

theorem Arr8.C_get (x : Arr8) {i : Int} (h : 0 ≤ i ∧ i < 8) : x.C[i.toNat]? = some (.int .i64 (x.get i)) := by
  obtain rfl | rfl | rfl | rfl | rfl | rfl | rfl | rfl : i = 0 ∨ i = 1 ∨ i = 2 ∨ i = 3 ∨ i = 4 ∨ i = 5 ∨ i = 6 ∨ i = 7 := by omega
  all_goals rfl

structure TThing where
  kind : Int
  n : Int
  owner : Int
  holds : Int
  reads : Arr8
  waiters : List TWaiter
  offer : Int
  item : Int

def TThing.C (x : TThing) (h0 : Value) : List Value := [.int .i64 x.kind, .int .i64 x.n, .int .i64 x.owner, .int .i64 x.holds, .int .i64 x.reads.a0, .int .i64 x.reads.a1, .int .i64 x.reads.a2, .int .i64 x.reads.a3, .int .i64 x.reads.a4, .int .i64 x.reads.a5, .int .i64 x.reads.a6, .int .i64 x.reads.a7, h0, .int .i64 x.offer, .int .i64 x.item]

theorem TThing.C_one (x : TThing) {h0 : Value} (qh0 : h0.oneCell' = true) : ∀ u ∈ x.C h0, u.oneCell' = true := by
  intro u hu
  simp only [TThing.C, List.mem_cons, List.not_mem_nil, or_false] at hu
  rcases hu with rfl | rfl | rfl | rfl | rfl | rfl | rfl | rfl | rfl | rfl | rfl | rfl | rfl | rfl | rfl <;> first | rfl | exact qh0

def KTThing : Kd TThing where
  sz := 15
  pos := by decide
  R L w cs x := ∃ h0, cs = x.C h0 ∧ RdS KTWaiter L w h0 x.waiters
  len := by rintro L w cs x ⟨h0, rfl, q0⟩; rfl
  one := by
    rintro L w cs x ⟨h0, rfl, q0⟩
    exact TThing.C_one x q0.one
  mono := by
    rintro L w L' w' cs x t ⟨h0, rfl, q0⟩
    exact ⟨h0, rfl, q0.mono t⟩

theorem TThing.C_reads_get (x : TThing) (h0 : Value) {i : Int} (h : 0 ≤ i ∧ i < 8) : (x.C h0)[4 + i.toNat]? = some (.int .i64 (x.reads.get i)) := by
  obtain rfl | rfl | rfl | rfl | rfl | rfl | rfl | rfl : i = 0 ∨ i = 1 ∨ i = 2 ∨ i = 3 ∨ i = 4 ∨ i = 5 ∨ i = 6 ∨ i = 7 := by omega
  all_goals rfl

theorem TThing.C_reads_set (x : TThing) (h0 : Value) {i : Int} (h : 0 ≤ i ∧ i < 8) (e : Int) : put (x.C h0) (4 + i.toNat) [.int .i64 e] = ({ x with reads := x.reads.set i e } : TThing).C h0 := by
  obtain rfl | rfl | rfl | rfl | rfl | rfl | rfl | rfl : i = 0 ∨ i = 1 ∨ i = 2 ∨ i = 3 ∨ i = 4 ∨ i = 5 ∨ i = 6 ∨ i = 7 := by omega
  all_goals rfl

structure TNote where
  kind : Int
  value : Int

def TNote.C (x : TNote) : List Value := [.int .i64 x.kind, .int .i64 x.value]

def TNote.eqb (x y : TNote) : Bool := (x.kind == y.kind) && ((x.value == y.value) && true)

theorem TNote.eqb_iff (x y : TNote) : x.eqb y = true ↔ x = y := by
  obtain ⟨x0, x1⟩ := x
  obtain ⟨y0, y1⟩ := y
  simp [TNote.eqb]

theorem TNote.C_one (x : TNote) : ∀ u ∈ x.C, u.oneCell' = true := by
  intro u hu
  simp only [TNote.C, List.mem_cons, List.not_mem_nil, or_false] at hu
  rcases hu with rfl | rfl <;> first | rfl

def KTNote : Kd TNote where
  sz := 2
  pos := by decide
  R L w cs x := cs = x.C
  len := by rintro L w cs x rfl; rfl
  one := by
    rintro L w cs x rfl
    exact TNote.C_one x
  mono := fun t h => h

structure TObject where
  kind : Int
  fair : Bool
  n : Int

def TObject.C (x : TObject) : List Value := [.int .i64 x.kind, .bool x.fair, .int .i64 x.n]

def TObject.eqb (x y : TObject) : Bool := (x.kind == y.kind) && ((x.fair == y.fair) && ((x.n == y.n) && true))

theorem TObject.eqb_iff (x y : TObject) : x.eqb y = true ↔ x = y := by
  obtain ⟨x0, x1, x2⟩ := x
  obtain ⟨y0, y1, y2⟩ := y
  simp [TObject.eqb]

theorem TObject.C_one (x : TObject) : ∀ u ∈ x.C, u.oneCell' = true := by
  intro u hu
  simp only [TObject.C, List.mem_cons, List.not_mem_nil, or_false] at hu
  rcases hu with rfl | rfl | rfl <;> first | rfl

def KTObject : Kd TObject where
  sz := 3
  pos := by decide
  R L w cs x := cs = x.C
  len := by rintro L w cs x rfl; rfl
  one := by
    rintro L w cs x rfl
    exact TObject.C_one x
  mono := fun t h => h

structure TOp where
  kind : Int
  obj : Int
  n : Int
  wait : Int
  breaks : Bool

def TOp.C (x : TOp) : List Value := [.int .i64 x.kind, .int .i64 x.obj, .int .i64 x.n, .int .i64 x.wait, .bool x.breaks]

def TOp.eqb (x y : TOp) : Bool := (x.kind == y.kind) && ((x.obj == y.obj) && ((x.n == y.n) && ((x.wait == y.wait) && ((x.breaks == y.breaks) && true))))

theorem TOp.eqb_iff (x y : TOp) : x.eqb y = true ↔ x = y := by
  obtain ⟨x0, x1, x2, x3, x4⟩ := x
  obtain ⟨y0, y1, y2, y3, y4⟩ := y
  simp [TOp.eqb]

theorem TOp.C_one (x : TOp) : ∀ u ∈ x.C, u.oneCell' = true := by
  intro u hu
  simp only [TOp.C, List.mem_cons, List.not_mem_nil, or_false] at hu
  rcases hu with rfl | rfl | rfl | rfl | rfl <;> first | rfl

def KTOp : Kd TOp where
  sz := 5
  pos := by decide
  R L w cs x := cs = x.C
  len := by rintro L w cs x rfl; rfl
  one := by
    rintro L w cs x rfl
    exact TOp.C_one x
  mono := fun t h => h

theorem mixed : Try.prog.follows .mixedOrders = true := by kernel_rfl

end Go.Proofs.Ytbfndihcbogjfaa
