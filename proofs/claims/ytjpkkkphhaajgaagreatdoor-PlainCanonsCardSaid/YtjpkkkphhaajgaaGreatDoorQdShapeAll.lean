/- a part -/
import Derived.Test.YtjpkkkphhaajgaaGreatDoorQdP04
import Derived.Test.YtjpkkkphhaajgaaGreatDoorQdP22
import Derived.RangeFuncBound
import Derived.Shelf.Abstract
import Derived.OwnWalkIn
import Derived.TacticsInMore
import Derived.LoopNIn
import Derived.LoopIn
set_option linter.all false
namespace Go.Proofs.YtjpkkkphhaajgaaGreatDoor.shp
open Go RowKit Shelf ChangeShapes WideShapes ChangeAt words told
attribute [local go_sem] Oper.semAt_some
def YShape (xs:List Int)(m:Nat)(pre:List (Nat × Nat))(x:Nat × Nat)(W0 W:World):Prop :=
 x.1=pre.length∧(x.1:Int)<prodI xs∧Below W0.heap.size W0 W∧W.ownsRow W0.heap.size 3 1 (.slice (some ⟨x.2,0,none⟩) m m) m (nums (tupI xs x.1))
def encT (m:Nat)(x:Nat × Nat):Array Value := #[.int .i64 x.1,.slice (some ⟨x.2,0,none⟩) m m]
theorem wide_fn (k:Nat):Fence.wide.fn k:=trivial
theorem tchK_t {S:Nat→Prop}{A B C:World}(h:Tch A B S)(k:Tch B C S):Tch A C S:=h.trans k fun _ _ h=>h
theorem tchK_b {S:Nat→Prop}{w:World}(hS:∀i,w.heap.size≤i→S i)(W:World)(l:Nat)(o o':Obj)(hl:w.heap.size≤l)(h:W.heap[l]?=some o)(_:o.isCells=false)(_:o.isWalk=false):Tch W (W.putObj l o') S :=
 Tch.of_grown (grownBy_putObj' W l o') fun i _ e=>by injection e with e;exact hS i (by omega)
theorem all_any (A:Option Addr)(m c:Nat)(w:World):Calls Tryz.prog 106 #[.agg #[.slice A m c]] w fun e w'=>e = .returned (.func (.func 150) #[] #[.pointer (some ⟨w.heap.size,0,none⟩)])∧w.alloc (.cells #[.slice A m c] 115)=w':=by
 go_enter Tryz.func106,Tryz.ntmps106
 go_wp2
 go_ret;exact⟨rfl,rfl⟩
end Go.Proofs.YtjpkkkphhaajgaaGreatDoor.shp
