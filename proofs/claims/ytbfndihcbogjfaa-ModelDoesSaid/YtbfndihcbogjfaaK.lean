/-
  Facts of the program that the walks ask for. Conditions: none.
-/
import Derived.Test.YtbfndihcbogjfaaF
namespace Go.Proofs.Ytbfndihcbogjfaa
open Go Go.RowKit Go.Proofs.Ytbfndihcbogjfaa.Gx
theorem bs23_0_ : ∀  (w : World), (Instr.buildSlice 23 0 #[]).run Try.prog w = .ok (.slice (some ⟨w.heap.size, 0, none⟩) 0 0) (w.alloc (.cells (([] : List (List Value)).flatten).toArray 45)) := fun _ => by kernel_rfl
theorem ti45 : TI Try.prog 45 2 16 := ⟨Try.t45, _, by kernel_rfl, rfl, rfl, rfl, rfl⟩
theorem ag45 : AG Try.prog 45 2 := ⟨Try.isAgg45, Try.sizeOf45⟩
theorem fo45_0 : FO Try.prog 45 0 0 := ⟨_, _, _, Try.underlying45, rfl, rfl, Try.sizeOf3, by decide⟩
theorem na3 : NA Try.prog 3 := Try.isAgg3
theorem fo25_5 : FO Try.prog 25 5 12 := ⟨_, _, _, Try.underlying25, rfl, rfl, Try.sizeOf23, by decide⟩
theorem na23 : NA Try.prog 23 := Try.isAgg23
theorem zv25 : ZV Try.prog 25 (TThing.C (⟨0, 0, 0, 0, Arr8.zero, [], 0, 0⟩ : TThing) (.slice none 0 0)) := ⟨_, Try.zeroValue25, rfl⟩
theorem fo25_3 : FO Try.prog 25 3 3 := ⟨_, _, _, Try.underlying25, rfl, rfl, Try.sizeOf3, by decide⟩
theorem fo25_2 : FO Try.prog 25 2 2 := ⟨_, _, _, Try.underlying25, rfl, rfl, Try.sizeOf3, by decide⟩
theorem ag25 : AG Try.prog 25 15 := ⟨Try.isAgg25, Try.sizeOf25⟩
theorem zv45 : ZV Try.prog 45 (TWaiter.C (⟨0, 0⟩ : TWaiter)) := ⟨_, Try.zeroValue45, rfl⟩
theorem fo29_0 : FO Try.prog 29 0 0 := ⟨_, _, _, Try.underlying29, rfl, rfl, Try.sizeOf3, by decide⟩
theorem fo29_1 : FO Try.prog 29 1 1 := ⟨_, _, _, Try.underlying29, rfl, rfl, Try.sizeOf2, by decide⟩
theorem na2 : NA Try.prog 2 := Try.isAgg2
theorem bd45_0_1 : ∀ (e0 : Int) (e1 : Int) (w : World), (Instr.build 45 #[(0, .int .i64 e0), (1, .int .i64 e1)]).run Try.prog w = .ok (.agg (TWaiter.C (⟨e0, e1⟩ : TWaiter)).toArray) w := fun _ _ _ => by kernel_rfl
theorem bs23_1_0 : ∀ (e0 : TWaiter) (w : World), (Instr.buildSlice 23 1 #[(0, .agg (e0.C).toArray)]).run Try.prog w = .ok (.slice (some ⟨w.heap.size, 0, none⟩) 1 1) (w.alloc (.cells (([e0.C] : List (List Value)).flatten).toArray 45)) := fun _ _ => by kernel_rfl
theorem ag29 : AG Try.prog 29 2 := ⟨Try.isAgg29, Try.sizeOf29⟩
theorem fo25_1 : FO Try.prog 25 1 1 := ⟨_, _, _, Try.underlying25, rfl, rfl, Try.sizeOf3, by decide⟩
theorem fo25_4 : FO Try.prog 25 4 4 := ⟨_, _, _, Try.underlying25, rfl, rfl, Try.sizeOf22, by decide⟩
theorem ag22 : AG Try.prog 22 8 := ⟨Try.isAgg22, Try.sizeOf22⟩
theorem fo25_6 : FO Try.prog 25 6 13 := ⟨_, _, _, Try.underlying25, rfl, rfl, Try.sizeOf3, by decide⟩
theorem fo25_7 : FO Try.prog 25 7 14 := ⟨_, _, _, Try.underlying25, rfl, rfl, Try.sizeOf3, by decide⟩
theorem fo25_0 : FO Try.prog 25 0 0 := ⟨_, _, _, Try.underlying25, rfl, rfl, Try.sizeOf3, by decide⟩
theorem fo36_0 : FO Try.prog 36 0 0 := ⟨_, _, _, Try.underlying36, rfl, rfl, Try.sizeOf3, by decide⟩
theorem fo36_2 : FO Try.prog 36 2 2 := ⟨_, _, _, Try.underlying36, rfl, rfl, Try.sizeOf3, by decide⟩
theorem bd25_0_1_2_6 : ∀ (e0 : Int) (e1 : Int) (e2 : Int) (e3 : Int) (w : World), (Instr.build 25 #[(0, .int .i64 e0), (1, .int .i64 e1), (2, .int .i64 e2), (6, .int .i64 e3)]).run Try.prog w = .ok (.agg (TThing.C (⟨e0, e1, e2, 0, Arr8.zero, [], e3, 0⟩ : TThing) (.slice none 0 0)).toArray) w := fun _ _ _ _ _ => by kernel_rfl
theorem bd36_0 : ∀ (e0 : Int) (w : World), (Instr.build 36 #[(0, .int .i64 e0)]).run Try.prog w = .ok (.agg (TObject.C (⟨e0, false, 0⟩ : TObject)).toArray) w := fun _ _ => by kernel_rfl
theorem bd29_0_1 : ∀ (e0 : Int) (e1 : Int) (w : World), (Instr.build 29 #[(0, .int .i64 e0), (1, .int .i64 e1)]).run Try.prog w = .ok (.agg (TNote.C (⟨e0, e1⟩ : TNote)).toArray) w := fun _ _ _ => by kernel_rfl
theorem bd29_0 : ∀ (e0 : Int) (w : World), (Instr.build 29 #[(0, .int .i64 e0)]).run Try.prog w = .ok (.agg (TNote.C (⟨e0, 0⟩ : TNote)).toArray) w := fun _ _ => by kernel_rfl
theorem eq22 : ∀ (d : Nat) (w : World) (x y : Arr8), (Op.equalIn (d + 2) 22 (.agg x.C.toArray) (.agg y.C.toArray)).run Try.prog w = .ok (x.eqb y) w := fun d w x y => eqA (R := eqV) Try.underlying22 na3 Try.sizeOf3 rfl rfl (fun i c e hc he w => by
    have hi : i < 8 := (List.getElem?_eq_some_iff.1 hc).1
    obtain rfl | rfl | rfl | rfl | rfl | rfl | rfl | rfl : i = 0 ∨ i = 1 ∨ i = 2 ∨ i = 3 ∨ i = 4 ∨ i = 5 ∨ i = 6 ∨ i = 7 := by omega
    all_goals (obtain rfl := Option.some.inj hc; obtain rfl := Option.some.inj he; exact eqI Try.underlying3))
theorem eq45 : ∀ (d : Nat) (w : World) (x y : TWaiter), (Op.equalIn (d + 2) 45 (.agg x.C.toArray) (.agg y.C.toArray)).run Try.prog w = .ok (x.eqb y) w := fun d w x y => eqS Try.underlying45 Try.stoodInHeld45 (eqc (by kernel_rfl) (part1 na3 rfl) (part1 na3 rfl) (eqI Try.underlying3) (eqc (by kernel_rfl) (part1 na3 rfl) (part1 na3 rfl) (eqI Try.underlying3) eqn))
theorem bs30_4_0_1_2_3 : ∀ (e0 : TNote) (e1 : TNote) (e2 : TNote) (e3 : TNote) (w : World), (Instr.buildSlice 30 4 #[(0, .agg (e0.C).toArray), (1, .agg (e1.C).toArray), (2, .agg (e2.C).toArray), (3, .agg (e3.C).toArray)]).run Try.prog w = .ok (.slice (some ⟨w.heap.size, 0, none⟩) 4 4) (w.alloc (.cells (([e0.C, e1.C, e2.C, e3.C] : List (List Value)).flatten).toArray 29)) := fun _ _ _ _ _ => by kernel_rfl
theorem zv29 : ZV Try.prog 29 (TNote.C (⟨0, 0⟩ : TNote)) := ⟨_, Try.zeroValue29, rfl⟩
theorem fo38_0 : FO Try.prog 38 0 0 := ⟨_, _, _, Try.underlying38, rfl, rfl, Try.sizeOf3, by decide⟩
theorem fo38_2 : FO Try.prog 38 2 2 := ⟨_, _, _, Try.underlying38, rfl, rfl, Try.sizeOf3, by decide⟩
theorem ag36 : AG Try.prog 36 3 := ⟨Try.isAgg36, Try.sizeOf36⟩
theorem ag38 : AG Try.prog 38 5 := ⟨Try.isAgg38, Try.sizeOf38⟩
end Go.Proofs.Ytbfndihcbogjfaa
