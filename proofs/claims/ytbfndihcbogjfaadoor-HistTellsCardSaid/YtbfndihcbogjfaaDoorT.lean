/-
  The plain types of the walks, and their words. Conditions: none.
-/
import Derived.Test.YtbfndihcbogjfaaDoorG17
import Derived.KernelRfl
import Derived.Test.YtbfndihcbogjfaaDoorRows
import Derived.Test.YtbfndihcbogjfaaDoorH
namespace Go.Proofs.YtbfndihcbogjfaaDoor
open Go Go.RowKit Go.Proofs.YtbfndihcbogjfaaDoor.Gx
structure TNote where
  kind : Int
  value : Int
deriving Inhabited

def TNote.C (x : TNote) : List Value := [.int .i64 x.kind, .int .i64 x.value]

def TNote.eqb (x y : TNote) : Bool := (x.kind == y.kind) && ((x.value == y.value) && true)

theorem TNote.eqb_iff (x y : TNote) : x.eqb y = true ↔ x = y := by
  obtain ⟨x0, x1⟩ := x
  obtain ⟨y0, y1⟩ := y
  simp [TNote.eqb]

theorem TNote.C_one (x : TNote) : ∀ u ∈ x.C, u.oneCell' = true := by
  intro u hu
  simp only [TNote.C, List.mem_cons, List.not_mem_nil, or_false] at hu
  rcases hu with rfl | rfl <;> first | rfl

def KTNote : Kd TNote where
  sz := 2
  pos := by decide
  R L w cs x := cs = x.C
  len := by rintro L w cs x rfl; rfl
  one := by
    rintro L w cs x rfl
    exact TNote.C_one x
  mono := fun t h => h

structure TEvent where
  kind : Int
  thread : Int
  now : Int
  note : TNote
  value : Int
  got : Int
deriving Inhabited

def TEvent.C (x : TEvent) : List Value := [.int .i64 x.kind, .int .i64 x.thread, .int .i64 x.now, .int .i64 x.note.kind, .int .i64 x.note.value, .int .i64 x.value, .int .i64 x.got]

def TEvent.eqb (x y : TEvent) : Bool := (x.kind == y.kind) && ((x.thread == y.thread) && ((x.now == y.now) && (x.note.eqb y.note && ((x.value == y.value) && ((x.got == y.got) && true)))))

theorem TEvent.eqb_iff (x y : TEvent) : x.eqb y = true ↔ x = y := by
  obtain ⟨x0, x1, x2, x3, x4, x5⟩ := x
  obtain ⟨y0, y1, y2, y3, y4, y5⟩ := y
  simp [TEvent.eqb, TNote.eqb_iff]

theorem TEvent.C_one (x : TEvent) : ∀ u ∈ x.C, u.oneCell' = true := by
  intro u hu
  simp only [TEvent.C, List.mem_cons, List.not_mem_nil, or_false] at hu
  rcases hu with rfl | rfl | rfl | rfl | rfl | rfl | rfl <;> first | rfl

def KTEvent : Kd TEvent where
  sz := 7
  pos := by decide
  R L w cs x := cs = x.C
  len := by rintro L w cs x rfl; rfl
  one := by
    rintro L w cs x rfl
    exact TEvent.C_one x
  mono := fun t h => h

structure TResult where
  value : Int
  got : Int
deriving Inhabited

def TResult.C (x : TResult) : List Value := [.int .i64 x.value, .int .i64 x.got]

def TResult.eqb (x y : TResult) : Bool := (x.value == y.value) && ((x.got == y.got) && true)

theorem TResult.eqb_iff (x y : TResult) : x.eqb y = true ↔ x = y := by
  obtain ⟨x0, x1⟩ := x
  obtain ⟨y0, y1⟩ := y
  simp [TResult.eqb]

theorem TResult.C_one (x : TResult) : ∀ u ∈ x.C, u.oneCell' = true := by
  intro u hu
  simp only [TResult.C, List.mem_cons, List.not_mem_nil, or_false] at hu
  rcases hu with rfl | rfl <;> first | rfl

def KTResult : Kd TResult where
  sz := 2
  pos := by decide
  R L w cs x := cs = x.C
  len := by rintro L w cs x rfl; rfl
  one := by
    rintro L w cs x rfl
    exact TResult.C_one x
  mono := fun t h => h


theorem mixed : Tryd.prog.follows .mixedOrders = true := by kernel_rfl

end Go.Proofs.YtbfndihcbogjfaaDoor
