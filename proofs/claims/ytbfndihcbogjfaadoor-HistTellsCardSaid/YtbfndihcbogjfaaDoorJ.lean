/-
  The library's tables that the rows list: a world that meets the condition, and what it gives the walks. Conditions: none.
-/
import Derived.Test.YtbfndihcbogjfaaDoorT
import Derived.Test.YtbfndihcbogjfaaDoorTie
import Derived.ChangeSame
import Derived.ChangeVars
import Derived.JoinedOf
import Derived.LaidLaws
import Derived.LaidHandle
import Derived.Lib.LaidTab
namespace Go.Proofs.YtbfndihcbogjfaaDoor
open Go Go.RowKit Go.Proofs.YtbfndihcbogjfaaDoor.Gx
def laids : List (String × DataW Unit) := [("math/bits.deBruijn32tab", Rows.laid_math_bits_deBruijn32tab), ("math/bits.deBruijn64tab", Rows.laid_math_bits_deBruijn64tab), ("internal/strconv.uint64pow10", Rows.laid_internal_strconv_uint64pow10)]
def words : DataW Unit → Array Value
  | .agg l => (l.map fun d => match d with | .lit (.int k z) => Value.int k z | _ => .nilIface).toArray
  | _ => #[]
def put1 (w : World) (g : Nat) (cs : Array Value) : World := { w with heap := w.heap.modify g fun
      | .cells _ t frozen => .cells cs t frozen
      | o => o }
noncomputable def laidWorld (os : Os) : World :=
  put1 (put1 (put1 (World.holding Tryd.prog os ⟨#[], #[], []⟩) 2 (words Rows.laid_math_bits_deBruijn32tab)) 3 (words Rows.laid_math_bits_deBruijn64tab)) 1 (words Rows.laid_internal_strconv_uint64pow10)
theorem laidWorld_met (os : Os) (args : Array Value) : laidMetH Tryd.prog laids ((laidWorld os).forCall (fun _ _ => 0) ⟨#[], args, []⟩).memory :=
  laidMet_of_run' 8 (by kernel_rfl) (by kernel_rfl)
theorem pow_eq : (Rows.laid_internal_strconv_uint64pow10 : DataW Unit) = Lib.tabData .u64 Lib.pow10Tab := by kernel_rfl
theorem tab_of_laid {W : World} (h : laidMetH Tryd.prog laids W) : TabA [] W := by
  have h' : laidMet Tryd.prog laids W := h
  obtain ⟨ps, ⟨_, _, _, _, _, _, _, _, _, _, ⟨_, _, _, _, _, _, _, _, _, _, ⟨g, t, cs, fuel, p, q, hg, ht, hvar, hd, _, _⟩, _⟩, _⟩, _⟩ := h'
  obtain rfl := Option.some.inj ((show Tryd.prog.globalNamed "internal/strconv.uint64pow10" = some 1 by kernel_rfl).symm.trans hg)
  obtain rfl := Option.some.inj ((show (Tryd.prog.globals[1]?).map (·.type) = some 151 by kernel_rfl).symm.trans ht)
  rw [pow_eq] at hd
  have e := Lib.cells_of_tab (n := 20) (e := 119) (by kernel_rfl) (by kernel_rfl) (by kernel_rfl) (by kernel_rfl) hd
  have e2 : cs = (Lib.pow10Tab.map (Value.int .u64)).toArray := by rw [← e]
  rw [e2] at hvar
  exact Tab.of hvar
end Go.Proofs.YtbfndihcbogjfaaDoor
