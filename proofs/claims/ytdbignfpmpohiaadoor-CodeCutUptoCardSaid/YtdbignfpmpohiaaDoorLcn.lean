/-
  No bytes, no room: what a nil argument is.
-/
import Derived.Test.YtdbignfpmpohiaaDoorLcu
import Derived.Test.YtdbignfpmpohiaaDoorOpn
namespace Go.Proofs.YtdbignfpmpohiaaDoor
open Go.ChangeShapes Go.WideShapes Go.ChangeAt Go.RowKit

theorem none_cap {H : Type} {enc : TypeId × Value → H} {W : World} {fuel : Nat} {A : Option Addr} {len cap : Nat} {x : DataW H × List MemPlace}
    (h : DataW.trod enc Tryd.prog W 0 (fun _ => true) true fuel 22 (Value.cells (.slice A len cap)).toList = some x) : A = none → cap = 0 := by
  intro hA
  subst hA
  rcases open_ints Tryd.underlying22 Tryd.underlying5 (by kernel_rfl) h with ⟨hcs, _⟩ | ⟨a, l, c, zs, hcs, _⟩
  · simp [Value.cells] at hcs
    exact hcs.2
  · simp [Value.cells] at hcs
end Go.Proofs.YtdbignfpmpohiaaDoor
