/-
  Plain: the law MicroLoads of the pure functions. Conditions: none but what each argument's type asks.
-/
import Derived.Test.YtjdalhedpgiimaaQ
namespace Go.Proofs.Ytjdalhedpgiimaa
open Go Go.RowKit Gx

def loadsCode : List TIns := [(⟨6, 0, 2, 0, 1⟩ : TIns), (⟨5, 3, 2, 0, 1⟩ : TIns), (⟨6, 1, 2, 0, 1⟩ : TIns), (⟨22, 3, 0, 0, 0⟩ : TIns)]
theorem loads1 (v w : Int) : micro_Step 10000 loadsCode ⟨[0, 5, 6], 4096⟩ ⟨[zpark], 0⟩ 0 [⟨0, ⟨v, w, 1, 0, 0, 0, 0, 0, 0, 0, 0, 0, 0, 0, 0, 0⟩⟩] =
    some ([⟨1, ⟨v, w, 1, 0, 0, 0, 0, 0, 0, 0, 0, 0, 0, 0, 0, 0⟩⟩], [], 0, 0, .nil, ⟨[0, 5, v], 4096⟩, ⟨[zpark], 0⟩) := by kernel_rfl
theorem loads2 (v w : Int) : micro_Step 10000 loadsCode ⟨[0, 5, v], 4096⟩ ⟨[zpark], 0⟩ 0 [⟨1, ⟨v, w, 1, 0, 0, 0, 0, 0, 0, 0, 0, 0, 0, 0, 0, 0⟩⟩] =
    some ([⟨2, ⟨v, w, 1, v, 0, 0, 0, 0, 0, 0, 0, 0, 0, 0, 0, 0⟩⟩], [], 0, 0, .nil, ⟨[0, 5, v], 4096⟩, ⟨[zpark], 0⟩) := by kernel_rfl
theorem loads3 (v w : Int) : micro_Step 10000 loadsCode ⟨[0, 5, v], 4096⟩ ⟨[zpark], 0⟩ 0 [⟨2, ⟨v, w, 1, v, 0, 0, 0, 0, 0, 0, 0, 0, 0, 0, 0, 0⟩⟩] =
    some ([⟨4, ⟨v, w, 1, v, 0, 0, 0, 0, 0, 0, 0, 0, 0, 0, 0, 0⟩⟩], [], 2, v, .nil, ⟨[0, 5, w], 4096⟩, ⟨[zpark], 0⟩) := by kernel_rfl
theorem loadsL (u : Int) : cell_Arena_Load ⟨[0, 5, u], 4096⟩ 2 = some (u, .nil) := by kernel_rfl
theorem told (x0 : Int) (x1 : Int) (_ : wfI .i64 x0) (_ : wfI .i64 x1) : ∃ k, tholelaw09_MicroLoads k x0 x1 = some true := by
  refine ⟨10000, ?_⟩
  have hm : tholelaw09_made 10000 [5, 6] 1 = some (some ⟨[0, 5, 6], 4096⟩, some ⟨[zpark], 0⟩) := made_eq [5, 6] (by simp) 1 (by omega) (by omega)
  have hs : micro_Start 0 [x0, x1, 1] = some [⟨0, ⟨x0, x1, 1, 0, 0, 0, 0, 0, 0, 0, 0, 0, 0, 0, 0, 0⟩⟩] := rfl
  have e1 := loads1 x0 x1
  have e2 := loads2 x0 x1
  have e3 := loads3 x0 x1
  unfold loadsCode at e1 e2 e3
  rw [tholelaw09_MicroLoads, up_eq, hm]
  simp only [Option.bind_some, om, hs, e1, e2, e3, loadsL]
  simp [Er.isN]
end Go.Proofs.Ytjdalhedpgiimaa
