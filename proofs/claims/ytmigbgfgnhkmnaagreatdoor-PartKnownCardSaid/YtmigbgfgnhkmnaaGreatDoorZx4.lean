/- Part 4 of a proof in parts: what the code of these packages does, and plain facts about it (Shelf2). No condition of its own. -/
import Derived.Test.YtmigbgfgnhkmnaaGreatDoorZx3
import Derived.Shelf.Spec.SlicesInsertGrow
import Derived.Shelf.Spec.SearchS
/- More contracts of the library's, laid at this translation: slices.Insert, slices.BinarySearch at strings; slices.Clone at Ops. -/
namespace Go.Proofs
open Go.Shelf
end Go.Proofs
