/-
  What comes in, opened. Conditions: none.
-/
import Derived.Test.YtbfndihcbogjfaaT
namespace Go.Proofs.Ytbfndihcbogjfaa
open Go Go.RowKit Go.Proofs.Ytbfndihcbogjfaa.Gx Go.ChangeShapes Go.WideShapes Go.ChangeAt
def Arr8.wf (x : Arr8) : Prop := wfI .i64 x.a0 ∧ wfI .i64 x.a1 ∧ wfI .i64 x.a2 ∧ wfI .i64 x.a3 ∧ wfI .i64 x.a4 ∧ wfI .i64 x.a5 ∧ wfI .i64 x.a6 ∧ wfI .i64 x.a7
theorem Arr8.of (x : {l : List Int // l.length = 8}) : ∃ a : Arr8, x.1 = [a.a0, a.a1, a.a2, a.a3, a.a4, a.a5, a.a6, a.a7] := by
  obtain ⟨l, l0⟩ := x
  obtain ⟨z0, r0, rfl, l1⟩ := len_cons l0
  obtain ⟨z1, r1, rfl, l2⟩ := len_cons l1
  obtain ⟨z2, r2, rfl, l3⟩ := len_cons l2
  obtain ⟨z3, r3, rfl, l4⟩ := len_cons l3
  obtain ⟨z4, r4, rfl, l5⟩ := len_cons l4
  obtain ⟨z5, r5, rfl, l6⟩ := len_cons l5
  obtain ⟨z6, r6, rfl, l7⟩ := len_cons l6
  obtain ⟨z7, r7, rfl, l8⟩ := len_cons l7
  obtain rfl := List.eq_nil_of_length_eq_zero l8
  exact ⟨⟨z0, z1, z2, z3, z4, z5, z6, z7⟩, rfl⟩
theorem Arr8.wf_of {a : Arr8} {l : List Int} (h : l = [a.a0, a.a1, a.a2, a.a3, a.a4, a.a5, a.a6, a.a7]) (w : ∀ z ∈ l, wfI .i64 z) : a.wf := by
  subst h
  exact ⟨w _ (by simp), w _ (by simp), w _ (by simp), w _ (by simp), w _ (by simp), w _ (by simp), w _ (by simp), w _ (by simp)⟩
def TWaiter.wf (x : TWaiter) : Prop := wfI .i64 x.thread ∧ wfI .i64 x.holds
theorem oTWaiter : Opn Try.prog 45 KTWaiter TWaiter.wf := fun H enc w n cs y h => by
  obtain ⟨xs, m, _, _, hl, hxl, hf⟩ := DataW.trod_struct Try.underlying45 h
  have l0 : cs.length = 2 := hl.trans (by kernel_rfl)
  obtain ⟨c0, r0, rfl, l1⟩ := len_cons l0
  obtain ⟨c1, r1, rfl, l2⟩ := len_cons l1
  obtain rfl := List.eq_nil_of_length_eq_zero l2
  obtain ⟨x0, e0, w0⟩ := opnF hf hxl 0 3 0 1 rfl (by kernel_rfl) (opnI Try.underlying3)
  have f0 : [c0] = [.int .i64 x0] := e0
  obtain ⟨x1, e1, w1⟩ := opnF hf hxl 1 3 1 1 rfl (by kernel_rfl) (opnI Try.underlying3)
  have f1 : [c1] = [.int .i64 x1] := e1
  obtain rfl := List.head_eq_of_cons_eq f0
  obtain rfl := List.head_eq_of_cons_eq f1
  exact ⟨⟨x0, x1⟩, rfl, w0, w1⟩
def TThing.wf (x : TThing) : Prop := wfI .i64 x.kind ∧ wfI .i64 x.n ∧ wfI .i64 x.owner ∧ wfI .i64 x.holds ∧ Arr8.wf x.reads ∧ (x.waiters.length ≤ maxLen ∧ ∀ y ∈ x.waiters, TWaiter.wf y) ∧ wfI .i64 x.offer ∧ wfI .i64 x.item
theorem oTThing : Opn Try.prog 25 KTThing TThing.wf := fun H enc w n cs y h => by
  obtain ⟨xs, m, _, _, hl, hxl, hf⟩ := DataW.trod_struct Try.underlying25 h
  have l0 : cs.length = 15 := hl.trans (by kernel_rfl)
  obtain ⟨c0, r0, rfl, l1⟩ := len_cons l0
  obtain ⟨c1, r1, rfl, l2⟩ := len_cons l1
  obtain ⟨c2, r2, rfl, l3⟩ := len_cons l2
  obtain ⟨c3, r3, rfl, l4⟩ := len_cons l3
  obtain ⟨c4, r4, rfl, l5⟩ := len_cons l4
  obtain ⟨c5, r5, rfl, l6⟩ := len_cons l5
  obtain ⟨c6, r6, rfl, l7⟩ := len_cons l6
  obtain ⟨c7, r7, rfl, l8⟩ := len_cons l7
  obtain ⟨c8, r8, rfl, l9⟩ := len_cons l8
  obtain ⟨c9, r9, rfl, l10⟩ := len_cons l9
  obtain ⟨c10, r10, rfl, l11⟩ := len_cons l10
  obtain ⟨c11, r11, rfl, l12⟩ := len_cons l11
  obtain ⟨c12, r12, rfl, l13⟩ := len_cons l12
  obtain ⟨c13, r13, rfl, l14⟩ := len_cons l13
  obtain ⟨c14, r14, rfl, l15⟩ := len_cons l14
  obtain rfl := List.eq_nil_of_length_eq_zero l15
  obtain ⟨x0, e0, w0⟩ := opnF hf hxl 0 3 0 1 rfl (by kernel_rfl) (opnI Try.underlying3)
  have f0 : [c0] = [.int .i64 x0] := e0
  obtain ⟨x1, e1, w1⟩ := opnF hf hxl 1 3 1 1 rfl (by kernel_rfl) (opnI Try.underlying3)
  have f1 : [c1] = [.int .i64 x1] := e1
  obtain ⟨x2, e2, w2⟩ := opnF hf hxl 2 3 2 1 rfl (by kernel_rfl) (opnI Try.underlying3)
  have f2 : [c2] = [.int .i64 x2] := e2
  obtain ⟨x3, e3, w3⟩ := opnF hf hxl 3 3 3 1 rfl (by kernel_rfl) (opnI Try.underlying3)
  have f3 : [c3] = [.int .i64 x3] := e3
  obtain ⟨x4, e4, w4⟩ := opnF hf hxl 4 22 4 8 rfl (by kernel_rfl) (opnA (by decide) Try.underlying22 Try.underlying3 (by kernel_rfl) (by kernel_rfl))
  obtain ⟨y4, hy4⟩ := Arr8.of x4
  have f4 : [c4, c5, c6, c7, c8, c9, c10, c11] = y4.C := e4.trans (by rw [hy4]; rfl)
  have w4 : y4.wf := Arr8.wf_of hy4 w4
  obtain ⟨x5, ⟨h5, e5, q5⟩, w5⟩ := opnF hf hxl 5 23 12 1 rfl (by kernel_rfl) (opnSl Try.underlying23 oTWaiter (by kernel_rfl))
  have f5 : [c12] = [h5] := e5
  obtain ⟨x6, e6, w6⟩ := opnF hf hxl 6 3 13 1 rfl (by kernel_rfl) (opnI Try.underlying3)
  have f6 : [c13] = [.int .i64 x6] := e6
  obtain ⟨x7, e7, w7⟩ := opnF hf hxl 7 3 14 1 rfl (by kernel_rfl) (opnI Try.underlying3)
  have f7 : [c14] = [.int .i64 x7] := e7
  obtain rfl := List.head_eq_of_cons_eq f0
  obtain rfl := List.head_eq_of_cons_eq f1
  obtain rfl := List.head_eq_of_cons_eq f2
  obtain rfl := List.head_eq_of_cons_eq f3
  obtain ⟨rfl, rfl, rfl, rfl, rfl, rfl, rfl, rfl⟩ : c4 = _ ∧ c5 = _ ∧ c6 = _ ∧ c7 = _ ∧ c8 = _ ∧ c9 = _ ∧ c10 = _ ∧ c11 = _ := by simpa [Arr8.C] using f4
  obtain rfl := List.head_eq_of_cons_eq f5
  obtain rfl := List.head_eq_of_cons_eq f6
  obtain rfl := List.head_eq_of_cons_eq f7
  exact ⟨⟨x0, x1, x2, x3, y4, x5, x6, x7⟩, ⟨_, rfl, q5⟩, w0, w1, w2, w3, w4, w5, w6, w7⟩
def TObject.wf (x : TObject) : Prop := wfI .i64 x.kind ∧ True ∧ wfI .i64 x.n
theorem oTObject : Opn Try.prog 36 KTObject TObject.wf := fun H enc w n cs y h => by
  obtain ⟨xs, m, _, _, hl, hxl, hf⟩ := DataW.trod_struct Try.underlying36 h
  have l0 : cs.length = 3 := hl.trans (by kernel_rfl)
  obtain ⟨c0, r0, rfl, l1⟩ := len_cons l0
  obtain ⟨c1, r1, rfl, l2⟩ := len_cons l1
  obtain ⟨c2, r2, rfl, l3⟩ := len_cons l2
  obtain rfl := List.eq_nil_of_length_eq_zero l3
  obtain ⟨x0, e0, w0⟩ := opnF hf hxl 0 3 0 1 rfl (by kernel_rfl) (opnI Try.underlying3)
  have f0 : [c0] = [.int .i64 x0] := e0
  obtain ⟨x1, e1, w1⟩ := opnF hf hxl 1 4 1 1 rfl (by kernel_rfl) (opnB Try.underlying4)
  have f1 : [c1] = [.bool x1] := e1
  obtain ⟨x2, e2, w2⟩ := opnF hf hxl 2 3 2 1 rfl (by kernel_rfl) (opnI Try.underlying3)
  have f2 : [c2] = [.int .i64 x2] := e2
  obtain rfl := List.head_eq_of_cons_eq f0
  obtain rfl := List.head_eq_of_cons_eq f1
  obtain rfl := List.head_eq_of_cons_eq f2
  exact ⟨⟨x0, x1, x2⟩, rfl, w0, w1, w2⟩
def TNote.wf (x : TNote) : Prop := wfI .i64 x.kind ∧ wfI .i64 x.value
theorem oTNote : Opn Try.prog 29 KTNote TNote.wf := fun H enc w n cs y h => by
  obtain ⟨xs, m, _, _, hl, hxl, hf⟩ := DataW.trod_struct Try.underlying29 h
  have l0 : cs.length = 2 := hl.trans (by kernel_rfl)
  obtain ⟨c0, r0, rfl, l1⟩ := len_cons l0
  obtain ⟨c1, r1, rfl, l2⟩ := len_cons l1
  obtain rfl := List.eq_nil_of_length_eq_zero l2
  obtain ⟨x0, e0, w0⟩ := opnF hf hxl 0 3 0 1 rfl (by kernel_rfl) (opnI Try.underlying3)
  have f0 : [c0] = [.int .i64 x0] := e0
  obtain ⟨x1, e1, w1⟩ := opnF hf hxl 1 2 1 1 rfl (by kernel_rfl) (opnI Try.underlying2)
  have f1 : [c1] = [.int .i64 x1] := e1
  obtain rfl := List.head_eq_of_cons_eq f0
  obtain rfl := List.head_eq_of_cons_eq f1
  exact ⟨⟨x0, x1⟩, rfl, w0, w1⟩
def TOp.wf (x : TOp) : Prop := wfI .i64 x.kind ∧ wfI .i64 x.obj ∧ wfI .i64 x.n ∧ wfI .i64 x.wait ∧ True
theorem oTOp : Opn Try.prog 38 KTOp TOp.wf := fun H enc w n cs y h => by
  obtain ⟨xs, m, _, _, hl, hxl, hf⟩ := DataW.trod_struct Try.underlying38 h
  have l0 : cs.length = 5 := hl.trans (by kernel_rfl)
  obtain ⟨c0, r0, rfl, l1⟩ := len_cons l0
  obtain ⟨c1, r1, rfl, l2⟩ := len_cons l1
  obtain ⟨c2, r2, rfl, l3⟩ := len_cons l2
  obtain ⟨c3, r3, rfl, l4⟩ := len_cons l3
  obtain ⟨c4, r4, rfl, l5⟩ := len_cons l4
  obtain rfl := List.eq_nil_of_length_eq_zero l5
  obtain ⟨x0, e0, w0⟩ := opnF hf hxl 0 3 0 1 rfl (by kernel_rfl) (opnI Try.underlying3)
  have f0 : [c0] = [.int .i64 x0] := e0
  obtain ⟨x1, e1, w1⟩ := opnF hf hxl 1 3 1 1 rfl (by kernel_rfl) (opnI Try.underlying3)
  have f1 : [c1] = [.int .i64 x1] := e1
  obtain ⟨x2, e2, w2⟩ := opnF hf hxl 2 3 2 1 rfl (by kernel_rfl) (opnI Try.underlying3)
  have f2 : [c2] = [.int .i64 x2] := e2
  obtain ⟨x3, e3, w3⟩ := opnF hf hxl 3 2 3 1 rfl (by kernel_rfl) (opnI Try.underlying2)
  have f3 : [c3] = [.int .i64 x3] := e3
  obtain ⟨x4, e4, w4⟩ := opnF hf hxl 4 4 4 1 rfl (by kernel_rfl) (opnB Try.underlying4)
  have f4 : [c4] = [.bool x4] := e4
  obtain rfl := List.head_eq_of_cons_eq f0
  obtain rfl := List.head_eq_of_cons_eq f1
  obtain rfl := List.head_eq_of_cons_eq f2
  obtain rfl := List.head_eq_of_cons_eq f3
  obtain rfl := List.head_eq_of_cons_eq f4
  exact ⟨⟨x0, x1, x2, x3, x4⟩, rfl, w0, w1, w2, w3, w4⟩
end Go.Proofs.Ytbfndihcbogjfaa
