/-
  What comes in, opened. Conditions: none.
-/
import Derived.Test.YtjdalhedpgiimaaT
namespace Go.Proofs.Ytjdalhedpgiimaa
open Go Go.RowKit Go.Proofs.Ytjdalhedpgiimaa.Gx Go.ChangeShapes Go.WideShapes Go.ChangeAt
def TIns.wf (x : TIns) : Prop := wfI .i64 x.op ∧ wfI .i64 x.a ∧ wfI .i64 x.b ∧ wfI .i64 x.c ∧ wfI .i64 x.n
theorem oTIns : Opn Try.prog 40 KTIns TIns.wf := fun H enc w n cs y h => by
  obtain ⟨xs, m, _, _, hl, hxl, hf⟩ := DataW.trod_struct Try.underlying40 h
  have l0 : cs.length = 5 := hl.trans (by kernel_rfl)
  obtain ⟨c0, r0, rfl, l1⟩ := len_cons l0
  obtain ⟨c1, r1, rfl, l2⟩ := len_cons l1
  obtain ⟨c2, r2, rfl, l3⟩ := len_cons l2
  obtain ⟨c3, r3, rfl, l4⟩ := len_cons l3
  obtain ⟨c4, r4, rfl, l5⟩ := len_cons l4
  obtain rfl := List.eq_nil_of_length_eq_zero l5
  obtain ⟨x0, e0, w0⟩ := opnF hf hxl 0 3 0 1 rfl (by kernel_rfl) (opnI Try.underlying3)
  have f0 : [c0] = [.int .i64 x0] := e0
  obtain ⟨x1, e1, w1⟩ := opnF hf hxl 1 3 1 1 rfl (by kernel_rfl) (opnI Try.underlying3)
  have f1 : [c1] = [.int .i64 x1] := e1
  obtain ⟨x2, e2, w2⟩ := opnF hf hxl 2 3 2 1 rfl (by kernel_rfl) (opnI Try.underlying3)
  have f2 : [c2] = [.int .i64 x2] := e2
  obtain ⟨x3, e3, w3⟩ := opnF hf hxl 3 3 3 1 rfl (by kernel_rfl) (opnI Try.underlying3)
  have f3 : [c3] = [.int .i64 x3] := e3
  obtain ⟨x4, e4, w4⟩ := opnF hf hxl 4 2 4 1 rfl (by kernel_rfl) (opnI Try.underlying2)
  have f4 : [c4] = [.int .i64 x4] := e4
  obtain rfl := List.head_eq_of_cons_eq f0
  obtain rfl := List.head_eq_of_cons_eq f1
  obtain rfl := List.head_eq_of_cons_eq f2
  obtain rfl := List.head_eq_of_cons_eq f3
  obtain rfl := List.head_eq_of_cons_eq f4
  exact ⟨⟨x0, x1, x2, x3, x4⟩, rfl, w0, w1, w2, w3, w4⟩
end Go.Proofs.Ytjdalhedpgiimaa
