/-
  Plain theorems, over any program: package variables that hold a known row; worlds that have grown. Conditions: as said.
-/
import Derived.Test.YtbfndihcbogjfaaDoorG10
import Derived.Sort.Grow
import Derived.Deep.Draws
import Derived.Lib.LaidTab
namespace Go.Proofs.YtbfndihcbogjfaaDoor.Gx
open Go Go.RowKit
/-- a package variable's block holds these words, and is none of L -/
def Tab (P : Program) (L : List Nat) (w : World) (name : String) (zs : List Value) : Prop :=
  ∃ g T, P.globalNamed name = some g ∧ g ∉ L ∧ ∃ fz, w.heap[g]? = some (.cells zs.toArray T fz)
section
variable {P : Program} {L L' : List Nat} {w w' : World} {name : String} {zs : List Value}
theorem Tab.mono (t : Tr L w L' w') (h : Tab P L w name zs) : Tab P L' w' name zs := by
  obtain ⟨g, T, hg, hL, fz, hh⟩ := h
  have hlt : g < w.heap.size := (Array.getElem?_eq_some_iff.1 hh).1
  refine ⟨g, T, hg, fun hm => ?_, fz, by rw [t.2.1 g hlt hL]; exact hh⟩
  rcases t.2.2 g hm with h | h
  · exact hL h
  · omega
theorem Tab.var (h : Tab P L w name zs) : w.var? P name = some zs.toArray := by
  obtain ⟨g, T, hg, _, fz, hh⟩ := h
  simp [World.var?, hg, hh]
theorem Tab.of (h : w.var? P name = some zs.toArray) : Tab P [] w name zs := by
  unfold World.var? at h
  obtain ⟨g, hg, h2⟩ := Option.bind_eq_some_iff.1 h
  split at h2
  · rename_i cs T fz e
    obtain rfl := Option.some.inj h2
    exact ⟨g, T, hg, by simp, fz, e⟩
  · cases h2
theorem grow_g (w : World) (k : Nat) (os : Array Obj) : G [] w (Sort.grow (w.drewN k) os) := ⟨rfl, rfl, rfl, by simp [Sort.grow, World.drewN], fun i hi _ => by
  simp only [Sort.grow, World.drewN]
  rw [Array.getElem?_append_left hi]⟩
end
end Go.Proofs.YtbfndihcbogjfaaDoor.Gx
