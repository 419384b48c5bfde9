/- a part -/
import Derived.RangeFuncNested
import Derived.OwnWalkIn
import Derived.OrdersIn
import Derived.Test.YtjpkkkphhaajgaaGreatDoorQdReads
set_option linter.all false
namespace Go.Proofs.YtjpkkkphhaajgaaGreatDoor.words
open Go
section
variable {P:Program} {ops:Array Oper} {md:Region.Mode} {w:World} {l:Nat} {m:Nat}
def noDefer (o:Oper):Bool:=match o.op with | .defer _=>false | _=>true
theorem noDefer_ne {o:Oper}(h:noDefer o=true):∀c,o.op ≠ .defer c:=fun c e=>by unfold noDefer at h;rw[e]at h;cases h
end
end Go.Proofs.YtjpkkkphhaajgaaGreatDoor.words
namespace Go.Proofs.YtjpkkkphhaajgaaGreatDoor.words
open Go
section
variable {P:Program} {ops:Array Oper} {md:Region.Mode} {l m:Nat}
theorem rows_round {row:String}{args:Array Value}{w:World}{R:Value→World→Prop}(h:Rows P row args w R):RowsIn (Fence.wide.inRound l) m P row args w R :=
 fun c cs _=>let ⟨v,w',r,s⟩:=h c cs;⟨v,w',r,stepsIn_wide.2 s⟩
theorem calls_round_ {f:FuncId}{args:Array Value}{w:World}{R:Ending→World→Prop}(h:Calls P f args w R):CallsIn (Fence.wide.inRound l) m P f args w R:=callsIn_wide.2 h
theorem wpIn_of_wp {o:Oper}(hnd:noDefer o=true){a:Act}{w:World}{K:Act→World→Prop}{Q:Exit→Act→World→Prop}(h:o.wp P a w K Q):o.wpIn (Fence.wide.inRound l) m P a w K Q:=by
 refine⟨fun f _=>trivial,?_⟩;rw[Oper.semAt_plain (Fence.wide.inRound l) _ _ (noDefer_ne hnd)];unfold Oper.wp at h;generalize (execOp a.eval o).run P w=r at *
 cases r with
 | ok n w' =>
   cases n<;>simp only[Oper.upon]at h
   case value v=>exact h
   case skip=>exact h
   case defer d=>exact h
   case enter f args=>exact⟨fun hd=>(by cases hd),calls_round_ h⟩
   case row row args=>exact⟨fun hd=>(by cases hd),rows_round h⟩
 |halt x w'=>cases x<;>simp only[Oper.upon]at h;exact h
theorem wpOpIn_of_wpOp {Q:Exit→Act→World→Prop}(hLO:¬ LetsOut Q){i:Nat}(hnd:∀ (o:Oper),ops[i]?=some o→noDefer o=true){K K':Act→World→Prop}(hK:∀a w,K a w→K' a w){a:Act}{w:World}(h:wpOp P ops Q i K a w):wpOpIn (Fence.wide.inRound l) m P ops Q i K' a w:=by
 unfold wpOp at h;unfold wpOpIn;split
 ·rename_i ho;simp only[ho]at h;exact hK _ _ h
 ·rename_i o ho
  simp only[ho]at h;split
  ·rename_i hw
   simp only[hw,if_true]at h;rcases h with h | h
   ·exact wpIn_of_wp (hnd o ho) (Oper.wp_mono hK h)
   ·exact absurd h.2 hLO
  ·rename_i hw
   simp only[hw]at h;exact⟨fun f _=>trivial,hK _ _ h⟩
theorem wpAnyIn_of_any {Q:Exit→Act→World→Prop}(hLO:¬ LetsOut Q)(hnd:∀ (i:Nat) (o:Oper),ops[i]?=some o→noDefer o=true):∀ (f:Nat) (listed:Array Bool) (a:Act) (w:World),wpAny P md ops Q f listed a w→wpAnyIn (Fence.wide.inRound l) m P md ops Q f listed a w
 |0,listed,a,w,h=>h
 |f+1,listed,a,w,h=>⟨h.1,fun i hi=>wpOpIn_of_wpOp hLO (hnd i) (fun a w h=>wpAnyIn_of_any hLO hnd f _ a w h) (h.2 i hi)⟩
theorem wpIn_region_round {id:Nat}{Q:Exit→Act→World→Prop}{a:Act}{w:World}{ls:List Oper}(hm:P.follows .mixedOrders=true)(hD:ls.all noDefer=true)(hLO:¬ LetsOut Q)
 (h:wpAny P .any ls.toArray Q ls.length (Array.replicate ls.length false) a w.drew):(Code.region id ls.toArray true).wpIn (Fence.wide.inRound l) m P Q a w:=by
 refine wpIn_region_any hm ?_;have:=wpAnyIn_of_any (m:=m) (l:=l) hLO (fun i o ho=>List.all_eq_true.1 hD o (List.mem_of_getElem? (by simpa using ho))) _ _ _ _ h
 simpa using this
end
end Go.Proofs.YtjpkkkphhaajgaaGreatDoor.words
