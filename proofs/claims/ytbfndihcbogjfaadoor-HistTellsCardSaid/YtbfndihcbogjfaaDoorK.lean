/-
  Facts of the program that the walks ask for. Conditions: none.
-/
import Derived.Test.YtbfndihcbogjfaaDoorF
namespace Go.Proofs.YtbfndihcbogjfaaDoor
open Go Go.RowKit Go.Proofs.YtbfndihcbogjfaaDoor.Gx
theorem ti27 : TI Tryd.prog 27 1 24 := ⟨Tryd.t27, _, by kernel_rfl, rfl, rfl, rfl, rfl⟩
theorem zv27 : ZV Tryd.prog 27 [.slice none 0 0] := ⟨_, Tryd.zeroValue27, rfl⟩
theorem ag38 : AG Tryd.prog 38 7 := ⟨Tryd.isAgg38, Tryd.sizeOf38⟩
theorem zv38 : ZV Tryd.prog 38 (TEvent.C (⟨0, 0, 0, (⟨0, 0⟩ : TNote), 0, 0⟩ : TEvent)) := ⟨_, Tryd.zeroValue38, rfl⟩
theorem fo38_0 : FO Tryd.prog 38 0 0 := ⟨_, _, _, Tryd.underlying38, rfl, rfl, Tryd.sizeOf3, by decide⟩
theorem na3 : NA Tryd.prog 3 := Tryd.isAgg3
theorem fo38_1 : FO Tryd.prog 38 1 1 := ⟨_, _, _, Tryd.underlying38, rfl, rfl, Tryd.sizeOf3, by decide⟩
theorem na27 : NA Tryd.prog 27 := Tryd.isAgg27
theorem fo38_4 : FO Tryd.prog 38 4 5 := ⟨_, _, _, Tryd.underlying38, rfl, rfl, Tryd.sizeOf3, by decide⟩
theorem fo38_5 : FO Tryd.prog 38 5 6 := ⟨_, _, _, Tryd.underlying38, rfl, rfl, Tryd.sizeOf3, by decide⟩
theorem bd64_0_1 : ∀ (e0 : Int) (e1 : Int) (w : World), (Instr.build 64 #[(0, .int .i64 e0), (1, .int .i64 e1)]).run Tryd.prog w = .ok (.agg (TResult.C (⟨e0, e1⟩ : TResult)).toArray) w := fun _ _ _ => by kernel_rfl
theorem bs27_1_0 : ∀ (e0 : TResult) (w : World), (Instr.buildSlice 27 1 #[(0, .agg (e0.C).toArray)]).run Tryd.prog w = .ok (.slice (some ⟨w.heap.size, 0, none⟩) 1 1) (w.alloc (.cells (([e0.C] : List (List Value)).flatten).toArray 64)) := fun _ _ => by kernel_rfl
theorem ti64 : TI Tryd.prog 64 2 16 := ⟨Tryd.t64, _, by kernel_rfl, rfl, rfl, rfl, rfl⟩
theorem fo38_3 : FO Tryd.prog 38 3 3 := ⟨_, _, _, Tryd.underlying38, rfl, rfl, Tryd.sizeOf36, by decide⟩
theorem fo36_0 : FO Tryd.prog 36 0 0 := ⟨_, _, _, Tryd.underlying36, rfl, rfl, Tryd.sizeOf3, by decide⟩
theorem bs29_1_0 : ∀ (e0 : Int) (w : World), (Instr.buildSlice 29 1 #[(0, .int .i64 e0)]).run Tryd.prog w = .ok (.slice (some ⟨w.heap.size, 0, none⟩) 1 1) (w.alloc (.cells (([[.int .i64 e0]] : List (List Value)).flatten).toArray 3)) := fun _ _ => by kernel_rfl
theorem ti3 : TI Tryd.prog 3 1 8 := ⟨Tryd.t3, _, by kernel_rfl, rfl, rfl, rfl, rfl⟩
theorem fo36_1 : FO Tryd.prog 36 1 1 := ⟨_, _, _, Tryd.underlying36, rfl, rfl, Tryd.sizeOf2, by decide⟩
theorem na2 : NA Tryd.prog 2 := Tryd.isAgg2
theorem zv68 : ZV Tryd.prog 68 [.pointer none, .slice none 0 0] := ⟨_, Tryd.zeroValue68, rfl⟩
theorem fo38_2 : FO Tryd.prog 38 2 2 := ⟨_, _, _, Tryd.underlying38, rfl, rfl, Tryd.sizeOf2, by decide⟩
theorem bd36_0_1 : ∀ (e0 : Int) (e1 : Int) (w : World), (Instr.build 36 #[(0, .int .i64 e0), (1, .int .i64 e1)]).run Tryd.prog w = .ok (.agg (TNote.C (⟨e0, e1⟩ : TNote)).toArray) w := fun _ _ _ => by kernel_rfl
theorem bd38_0_1_2_3 : ∀ (e0 : Int) (e1 : Int) (e2 : Int) (e3 : TNote) (w : World), (Instr.build 38 #[(0, .int .i64 e0), (1, .int .i64 e1), (2, .int .i64 e2), (3, .agg (e3.C).toArray)]).run Tryd.prog w = .ok (.agg (TEvent.C (⟨e0, e1, e2, e3, 0, 0⟩ : TEvent)).toArray) w := fun _ _ _ _ _ => by kernel_rfl
theorem bs22_1_0 : ∀ (e0 : TEvent) (w : World), (Instr.buildSlice 22 1 #[(0, .agg (e0.C).toArray)]).run Tryd.prog w = .ok (.slice (some ⟨w.heap.size, 0, none⟩) 1 1) (w.alloc (.cells (([e0.C] : List (List Value)).flatten).toArray 38)) := fun _ _ => by kernel_rfl
theorem ag64 : AG Tryd.prog 64 2 := ⟨Tryd.isAgg64, Tryd.sizeOf64⟩
theorem eq64 : ∀ (d : Nat) (w : World) (x y : TResult), (Op.equalIn (d + 2) 64 (.agg x.C.toArray) (.agg y.C.toArray)).run Tryd.prog w = .ok (x.eqb y) w := fun d w x y => eqS Tryd.underlying64 Tryd.stoodInHeld64 (eqc (by kernel_rfl) (part1 na3 rfl) (part1 na3 rfl) (eqI Tryd.underlying3) (eqc (by kernel_rfl) (part1 na3 rfl) (part1 na3 rfl) (eqI Tryd.underlying3) eqn))
theorem bs66_1_0 : ∀ (e0 : Int) (w : World), (Instr.buildSlice 66 1 #[(0, .int .u8 e0)]).run Tryd.prog w = .ok (.slice (some ⟨w.heap.size, 0, none⟩) 1 1) (w.alloc (.cells (([[.int .u8 e0]] : List (List Value)).flatten).toArray 5)) := fun _ _ => by kernel_rfl
end Go.Proofs.YtbfndihcbogjfaaDoor
