/- MapInc. -/
import Derived.Test.YtjpkkkphhaajgaaGreatDoorQpWords
import Derived.Maps.OwnOps
import Derived.Maps.RangeWalk
import Derived.WideKeyEntry
set_option linter.all false
/- 'm[k]++': the entry, then the store, as laws at the operations. -/
namespace Go.Proofs.YtjpkkkphhaajgaaGreatDoor.words
open Go Go.Maps Go.WideMaps Go.ChangeMaps
section
variable {P : Program} {k e t : TypeId} {w : World} {b n : Nat} {D : DataW Unit}
end
end Go.Proofs.YtjpkkkphhaajgaaGreatDoor.words
