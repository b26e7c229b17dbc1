/-
  What comes in, opened. Conditions: none.
-/
import Derived.Test.YtbfndihcbogjfaaDoorT
namespace Go.Proofs.YtbfndihcbogjfaaDoor
open Go Go.RowKit Go.Proofs.YtbfndihcbogjfaaDoor.Gx Go.ChangeShapes Go.WideShapes Go.ChangeAt
def TNote.wf (x : TNote) : Prop := wfI .i64 x.kind ∧ wfI .i64 x.value
theorem oTNote : Opn Tryd.prog 36 KTNote TNote.wf := fun H enc w n cs y h => by
  obtain ⟨xs, m, _, _, hl, hxl, hf⟩ := DataW.trod_struct Tryd.underlying36 h
  have l0 : cs.length = 2 := hl.trans (by kernel_rfl)
  obtain ⟨c0, r0, rfl, l1⟩ := len_cons l0
  obtain ⟨c1, r1, rfl, l2⟩ := len_cons l1
  obtain rfl := List.eq_nil_of_length_eq_zero l2
  obtain ⟨x0, e0, w0⟩ := opnF hf hxl 0 3 0 1 rfl (by kernel_rfl) (opnI Tryd.underlying3)
  have f0 : [c0] = [.int .i64 x0] := e0
  obtain ⟨x1, e1, w1⟩ := opnF hf hxl 1 2 1 1 rfl (by kernel_rfl) (opnI Tryd.underlying2)
  have f1 : [c1] = [.int .i64 x1] := e1
  obtain rfl := List.head_eq_of_cons_eq f0
  obtain rfl := List.head_eq_of_cons_eq f1
  exact ⟨⟨x0, x1⟩, rfl, w0, w1⟩
def TEvent.wf (x : TEvent) : Prop := wfI .i64 x.kind ∧ wfI .i64 x.thread ∧ wfI .i64 x.now ∧ TNote.wf x.note ∧ wfI .i64 x.value ∧ wfI .i64 x.got
theorem oTEvent : Opn Tryd.prog 38 KTEvent TEvent.wf := fun H enc w n cs y h => by
  obtain ⟨xs, m, _, _, hl, hxl, hf⟩ := DataW.trod_struct Tryd.underlying38 h
  have l0 : cs.length = 7 := hl.trans (by kernel_rfl)
  obtain ⟨c0, r0, rfl, l1⟩ := len_cons l0
  obtain ⟨c1, r1, rfl, l2⟩ := len_cons l1
  obtain ⟨c2, r2, rfl, l3⟩ := len_cons l2
  obtain ⟨c3, r3, rfl, l4⟩ := len_cons l3
  obtain ⟨c4, r4, rfl, l5⟩ := len_cons l4
  obtain ⟨c5, r5, rfl, l6⟩ := len_cons l5
  obtain ⟨c6, r6, rfl, l7⟩ := len_cons l6
  obtain rfl := List.eq_nil_of_length_eq_zero l7
  obtain ⟨x0, e0, w0⟩ := opnF hf hxl 0 3 0 1 rfl (by kernel_rfl) (opnI Tryd.underlying3)
  have f0 : [c0] = [.int .i64 x0] := e0
  obtain ⟨x1, e1, w1⟩ := opnF hf hxl 1 3 1 1 rfl (by kernel_rfl) (opnI Tryd.underlying3)
  have f1 : [c1] = [.int .i64 x1] := e1
  obtain ⟨x2, e2, w2⟩ := opnF hf hxl 2 2 2 1 rfl (by kernel_rfl) (opnI Tryd.underlying2)
  have f2 : [c2] = [.int .i64 x2] := e2
  obtain ⟨x3, e3, w3⟩ := opnF hf hxl 3 36 3 2 rfl (by kernel_rfl) oTNote
  have f3 : [c3, c4] = x3.C := e3
  obtain ⟨x4, e4, w4⟩ := opnF hf hxl 4 3 5 1 rfl (by kernel_rfl) (opnI Tryd.underlying3)
  have f4 : [c5] = [.int .i64 x4] := e4
  obtain ⟨x5, e5, w5⟩ := opnF hf hxl 5 3 6 1 rfl (by kernel_rfl) (opnI Tryd.underlying3)
  have f5 : [c6] = [.int .i64 x5] := e5
  obtain rfl := List.head_eq_of_cons_eq f0
  obtain rfl := List.head_eq_of_cons_eq f1
  obtain rfl := List.head_eq_of_cons_eq f2
  obtain ⟨rfl, rfl⟩ : c3 = _ ∧ c4 = _ := by simpa [TNote.C] using f3
  obtain rfl := List.head_eq_of_cons_eq f4
  obtain rfl := List.head_eq_of_cons_eq f5
  exact ⟨⟨x0, x1, x2, x3, x4, x5⟩, rfl, w0, w1, w2, w3, w4, w5⟩
end Go.Proofs.YtbfndihcbogjfaaDoor
