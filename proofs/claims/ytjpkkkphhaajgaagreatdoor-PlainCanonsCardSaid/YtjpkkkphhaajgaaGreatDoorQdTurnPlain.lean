/- a part -/
import Derived.Test.YtjpkkkphhaajgaaGreatDoorQdP30
import Derived.Test.YtjpkkkphhaajgaaGreatDoorQdP21
import Derived.Test.YtjpkkkphhaajgaaGreatDoorQdTpSame
set_option linter.all false
namespace Go.Proofs.YtjpkkkphhaajgaaGreatDoor.wcp
open Go words scn
open shp (Szs prodI InT idxI tupI allI)
def layT (l:List Int)(ps:List (Int × Int)):List Int:=ps.foldl (fun l p=>l.set p.1.toNat p.2) l
def backT (od x:List Int):List Int:=layT (List.replicate od.length 0) (od.zip x)
theorem layT_snoc (l:List Int)(ps:List (Int × Int))(p:Int × Int):layT l (ps ++ [p])=(layT l ps).set p.1.toNat p.2:=by unfold layT;rw[List.foldl_append];rfl
theorem layT_len (l:List Int)(ps:List (Int × Int)):(layT l ps).length=l.length:=by
 induction ps generalizing l with
 |nil=>rfl
 |cons p ps ih=>show (layT (l.set p.1.toNat p.2) ps).length=_;rw[ih,List.length_set]
theorem backT_len (od x:List Int):(backT od x).length=od.length:=by unfold backT;rw[layT_len,List.length_replicate]
theorem layT_far {ps:List (Int × Int)}{l:List Int}{q:Nat}(h:∀p∈ps,p.1.toNat≠q):(layT l ps)[q]?=l[q]?:=by
 induction ps generalizing l with
 |nil=>rfl
 | cons p ps ih =>
   show (layT (l.set p.1.toNat p.2) ps)[q]?=_;rw[ih fun p' hp=>h p' (by simp[hp]),List.getElem?_set_ne (h p (by simp))]
theorem layT_at:∀ {ps:List (Int × Int)} {l:List Int} {i:Nat} {p:Int × Int},(ps.map (·.1)).Nodup→(∀p∈ps,0≤p.1∧p.1<l.length)→ps[i]?=some p→(layT l ps)[p.1.toNat]?=some p.2:=by
 intro ps
 induction ps with
 |nil=>intro l i p _ _ h;simp at h
 | cons q ps ih =>
   intro l i p hn hr h;have hn':=List.nodup_cons.1 (by simpa using hn:(q.1::ps.map (·.1)).Nodup);show (layT (l.set q.1.toNat q.2) ps)[p.1.toNat]?=_
   cases i with
   | zero =>
     obtain rfl:q=p:=by simpa using h
     rw[layT_far fun p' hp he=>hn'.1 (List.mem_map.2 ⟨p',hp,by have:=hr p' (by simp[hp]);have:=hr q (by simp);omega⟩),List.getElem?_set_self (by have:=hr q (by simp);omega)]
   |succ i=>exact ih hn'.2 (fun p' hp=>by rw[List.length_set];exact hr p' (by simp[hp])) (by simpa using h)
def IsOrd (od:List Int):Prop:=od.Nodup∧∀p∈od,0≤p∧p<od.length
theorem backT_at {od x:List Int}(h:IsOrd od)(hx:x.length=od.length){i:Nat}{p v:Int}(hp:od[i]?=some p)(hv:x[i]?=some v):(backT od x)[p.toNat]?=some v:=by
 have hz:(od.zip x)[i]?=some (p,v):=List.getElem?_zip_eq_some.2 ⟨hp,hv⟩;refine layT_at (p:=(p,v)) ?_ ?_ hz
 ·rw[List.map_fst_zip (by omega)];exact h.1
 ·intro q hq
  rw[List.length_replicate];exact h.2 q.1 (List.of_mem_zip hq).1
theorem mem_ran {n:Nat}{p:Int}:p∈(List.range n).map (fun i:Nat=>(i:Int))↔0≤p∧p<n:=by
 rw[List.mem_map];constructor
 ·rintro ⟨i,hi,rfl⟩
  have:=List.mem_range.1 hi;omega
 ·rintro ⟨h1,h2⟩
  exact⟨p.toNat,List.mem_range.2 (by omega),by omega⟩
theorem ord_onto {od:List Int}(h:IsOrd od){q:Nat}(hq:q<od.length):∃i:Nat,od[i]?=some (q:Int):=by
 by_cases hm:(q:Int)∈od
 ·obtain⟨i,hi⟩:=List.getElem?_of_mem hm
  exact⟨i,hi⟩
 ·have:=nodup_le ((q:Int)::od) ((List.range od.length).map fun i:Nat=>(i:Int)) (List.nodup_cons.2 ⟨hm,h.1⟩) fun x hx=>by
   rcases List.mem_cons.1 hx with rfl | hx
   ·exact mem_ran.2 (by omega)
   ·exact mem_ran.2 (h.2 x hx)
  simp at this;omega
theorem ran_nodup (n:Nat):((List.range n).map fun i:Nat=>(i:Int)).Nodup:=by
 rw[List.Nodup,List.pairwise_map];exact List.nodup_range.imp fun h=>by omega
theorem ord_rise {od:List Int}(h:IsOrd od):riseI od=(List.range od.length).map fun i:Nat=>(i:Int):=by
 have h3:od.Perm ((List.range od.length).map fun i:Nat=>(i:Int)):=(List.perm_ext_iff_of_nodup h.1 (ran_nodup _)).2 fun p=>by
  rw[mem_ran];refine⟨h.2 p,fun hp=>?_⟩;obtain⟨i,hi⟩:=ord_onto h (q:=p.toNat) (by omega);have:=List.mem_of_getElem? hi
  rwa [Int.toNat_of_nonneg hp.1]at this
 have hle:∀a b c:Int,decide (a≤b)=true→decide (b≤c)=true→decide (a≤c)=true:=fun a b c h1 h2=>by simp at *;omega
 have htot:∀a b:Int,(decide (a≤b) || decide (b≤a))=true:=fun a b=>by simp;omega
 refine ((List.mergeSort_perm od _).trans h3).eq_of_pairwise (le:=fun a b=>decide (a≤b)=true) (fun a b _ _ h1 h2=>by simp at *;omega) (List.pairwise_mergeSort hle htot od) ?_;rw[List.pairwise_map];exact List.pairwise_lt_range.imp fun h=>by simp;omega
theorem backT_in {zs od x:List Int}(h:IsOrd od)(hz:zs.length=od.length)(hx:InS (od.map fun p=>zs.getD p.toNat 0) x):InS zs (backT od x):=by
 have hxl:x.length=od.length:=by rw[hx.1,List.length_map]
 refine⟨by rw[backT_len,hz],fun q v z hv hzq=>?_⟩;have hq:q<od.length:=by have:=(List.getElem?_eq_some_iff.1 hzq).1;omega
 obtain⟨i,hi⟩:=ord_onto h hq;have hil:i<x.length:=by rw[hxl];exact (List.getElem?_eq_some_iff.1 hi).1
 have h1:=backT_at h hxl hi (List.getElem?_eq_getElem hil);rw[show ((q:Int)).toNat=q from rfl,hv]at h1;injection h1 with h1
 have h2:(od.map fun p=>zs.getD p.toNat 0)[i]?=some z:=by
  rw[List.getElem?_map,hi];simp[List.getD,hzq]
 exact hx.2 i v z (by rw[h1];exact List.getElem?_eq_getElem hil) h2
end Go.Proofs.YtjpkkkphhaajgaaGreatDoor.wcp
