/- a part -/
import Derived.Test.YtjpkkkphhaajgaaGreatDoorQdP08
import Derived.Shelf.Strconv.Itoa4
import Derived.Test.YtjpkkkphhaajgaaGreatDoorQdP06
import Derived.Test.YtjpkkkphhaajgaaGreatDoorQdP10
set_option linter.all false
namespace Go.Proofs
open Go.Shelf
def Tryz.lays173_ren:Go.Shelf.Ren:=⟨fun | 173=>171 | 246=>188 | 283=>208 | 284=>209 | 285=>210 | 286=>211 | 129=>161 | 317=>219 | 318=>220 | 319=>221 | 320=>222 | 337=>225 | 338=>226 | n=>n,fun | 2=>2 | 3=>3 | 9=>9 | 4=>4 | 171=>302 | 0=>0 | 53=>135 | 37=>22 | 5=>5 | 173=>304 | 212=>312 | 51=>257 | 20=>20 | 213=>313 | 46=>203 | 232=>316 | 233=>317 | n=>n,fun | 17=>0 | 18=>2 | 19=>3 | n=>n⟩
theorem Tryz.lays173:Go.Proofs.LaysM.n173 Tryz.prog Tryz.lays173_ren:={
 mixed:=by kernel_rfl
 f129:=Tryz.func161.trans (congrArg some (by kernel_rfl))
 f173:=Tryz.func171.trans (congrArg some (by kernel_rfl))
 f246:=Tryz.func188.trans (congrArg some (by kernel_rfl))
 f283:=Tryz.func208.trans (congrArg some (by kernel_rfl))
 f284:=Tryz.func209.trans (congrArg some (by kernel_rfl))
 f285:=Tryz.func210.trans (congrArg some (by kernel_rfl))
 f286:=Tryz.func211.trans (congrArg some (by kernel_rfl))
 f317:=Tryz.func219.trans (congrArg some (by kernel_rfl))
 f318:=Tryz.func220.trans (congrArg some (by kernel_rfl))
 f319:=Tryz.func221.trans (congrArg some (by kernel_rfl))
 f320:=Tryz.func222.trans (congrArg some (by kernel_rfl))
 f337:=Tryz.func225.trans (congrArg some (by kernel_rfl))
 f338:=Tryz.func226.trans (congrArg some (by kernel_rfl))
 t0:=Tryz.underlying0
 a0:=Tryz.isAgg0
 z0:=Tryz.sizeOf0
 v0:=Tryz.zeroValue0
 t2:=Tryz.underlying2
 a2:=Tryz.isAgg2
 z2:=Tryz.sizeOf2
 v2:=Tryz.zeroValue2
 t3:=Tryz.underlying3
 a3:=Tryz.isAgg3
 z3:=Tryz.sizeOf3
 v3:=Tryz.zeroValue3
 t4:=Tryz.underlying4
 a4:=Tryz.isAgg4
 z4:=Tryz.sizeOf4
 v4:=Tryz.zeroValue4
 t5:=Tryz.underlying5
 a5:=Tryz.isAgg5
 z5:=Tryz.sizeOf5
 v5:=Tryz.zeroValue5
 t9:=Tryz.underlying9
 a9:=Tryz.isAgg9
 z9:=Tryz.sizeOf9
 v9:=Tryz.zeroValue9
 t20:=Tryz.underlying20
 a20:=Tryz.isAgg20
 z20:=Tryz.sizeOf20
 v20:=Tryz.zeroValue20
 t37:=Tryz.underlying22
 a37:=Tryz.isAgg22
 z37:=Tryz.sizeOf22
 v37:=Tryz.zeroValue22
 t46:=Tryz.underlying203
 a46:=Tryz.isAgg203
 z46:=Tryz.sizeOf203
 v46:=Tryz.zeroValue203
 t51:=Tryz.underlying257
 a51:=Tryz.isAgg257
 z51:=Tryz.sizeOf257
 v51:=Tryz.zeroValue257
 t53:=Tryz.underlying135
 a53:=Tryz.isAgg135
 z53:=Tryz.sizeOf135
 v53:=Tryz.zeroValue135
 t171:=Tryz.underlying302
 a171:=Tryz.isAgg302
 z171:=Tryz.sizeOf302
 v171:=Tryz.zeroValue302
 t173:=Tryz.underlying304
 a173:=Tryz.isAgg304
 z173:=Tryz.sizeOf304
 v173:=Tryz.zeroValue304
 t212:=Tryz.underlying312
 a212:=Tryz.isAgg312
 z212:=Tryz.sizeOf312
 v212:=Tryz.zeroValue312
 t213:=Tryz.underlying313
 a213:=Tryz.isAgg313
 z213:=Tryz.sizeOf313
 t232:=Tryz.underlying316
 a232:=Tryz.isAgg316
 z232:=Tryz.sizeOf316
 v232:=Tryz.zeroValue316
 t233:=Tryz.underlying317
 a233:=Tryz.isAgg317
 z233:=Tryz.sizeOf317
 v233:=Tryz.zeroValue317
 g17:=by kernel_rfl
 g18:=by kernel_rfl
 g19:=by kernel_rfl
 i0:=by kernel_rfl
 i2:=by kernel_rfl
 i3:=by kernel_rfl
 i4:=by kernel_rfl
 i5:=by kernel_rfl
 i9:=by kernel_rfl
 i20:=by kernel_rfl
 i37:=by kernel_rfl
 i46:=by kernel_rfl
 i51:=by kernel_rfl
 i53:=by kernel_rfl
 i171:=by kernel_rfl
 i173:=by kernel_rfl
 i212:=by kernel_rfl
 i232:=by kernel_rfl
 i233:=by kernel_rfl
 m17:=by kernel_rfl
 m18:=by kernel_rfl
 m19:=by kernel_rfl }
end Go.Proofs
namespace Go.Proofs.YtjpkkkphhaajgaaGreatDoor.scn
open Go RowKit ChangeShapes WideShapes ChangeAt words
def Tab (w:World):Prop:=Lib.TabIs Tryz.prog w "internal/strconv.uint64pow10" .u64 Lib.pow10Tab
theorem gPow:Tryz.prog.globalNamed "internal/strconv.uint64pow10" = some 0:=by kernel_rfl
theorem Tab.lt {w:World}(h:Tab w):0<w.heap.size :=
 World.block_lt_of_cell? w _ (Lib.TabIs.cell h gPow 0 (by decide))
theorem Tab.below {w w':World}(h:Tab w)(hb:Below w.heap.size w w'):Tab w':=by
 have hl:=h.lt;unfold Tab Lib.TabIs World.var? at h ⊢;rw[gPow]at h ⊢;simp only[Option.bind_some]at h ⊢;rw[hb.block _ hl];exact h
theorem grow_below (w:World)(k:Nat)(os:Array Obj):Below w.heap.size w (Sort.grow (w.drewN k) os):=by
 refine⟨rfl,rfl,rfl,?_,fun i hi=>?_⟩
 ·simp[Sort.grow,World.drewN]
 ·simp[Sort.grow,World.drewN]
  exact Array.getElem?_append_left hi
theorem write_any (n:Int)(w:World)(h0 : -9223372036854775808≤n)(h1:n≤9223372036854775807)(ht:Tab w) :
 Calls Tryz.prog 130 #[.int .i64 n] w fun e w'=>e = .returned (strV (Lib.itoa n))∧Below w.heap.size w w':=by
 have hf:Calls Tryz.prog 171 #[.int .i64 n,.int .i64 10] w fun e w'=>e = .returned (strV (Lib.itoa n))∧∃k os,w'=Sort.grow (w.drewN k) os:=Any.strconv_FormatInt_10 Tryz.lays173 n h0 h1 w ht
 go_enter Tryz.func130,Tryz.ntmps130
 go_wp2_with (first | (go_at_call 171;(with_reducible refine hf.mono ?_);rintro e w1 ⟨rfl,k,os,rfl⟩) | fail)
 go_ret;exact⟨rfl,grow_below _ _ _⟩
theorem dd_small {u:Nat}(h:u<10):Lib.decDigits u = [UInt8.ofNat (48+u)]:=Lib.decDigits_one h
theorem dd_more {u:Nat}(h:¬ u<10):Lib.decDigits u=Lib.decDigits (u / 10) ++ [UInt8.ofNat (48+u % 10)]:=by rw[Lib.decDigits,dif_neg h]
theorem dig_nat {d:Nat}(h:d<10):(UInt8.ofNat (48+d)).toNat=48+d:=by rw[UInt8.toNat_ofNat'];omega
theorem dd_all:∀ (u:Nat),dec (Lib.decDigits u)=u∧(Lib.decDigits u).all isD=true∧Lib.decDigits u ≠ []:=by
 intro u
 induction u using Nat.strongRecOn with
 | _ u ih =>
   by_cases h:u<10
   ·rw[dd_small h]
    refine⟨?_,?_,by simp⟩
    ·simp only[dec,List.foldl_cons,List.foldl_nil,dig_nat h];omega
    ·simp only[List.all_cons,List.all_nil,Bool.and_true,isD,dig_nat h,Bool.and_eq_true,decide_eq_true_eq];omega
   ·obtain⟨h1,h2,h3⟩:=ih (u / 10) (by omega)
    rw[dd_more h];have hd:u % 10<10:=Nat.mod_lt _ (by omega);refine⟨?_,?_,by simp⟩
    ·rw[dec_snoc,h1,dig_nat hd];omega
    ·rw[List.all_append,h2]
     simp only[List.all_cons,List.all_nil,Bool.and_true,Bool.true_and,isD,dig_nat hd,Bool.and_eq_true,decide_eq_true_eq];omega
theorem dec_noughts (k:Nat)(l:List UInt8):dec (List.replicate k 48++l)=dec l∧((List.replicate k 48++l).all isD=l.all isD):=by
 induction k with
 |zero=>exact⟨rfl,rfl⟩
 | succ k ih =>
   rw[List.replicate_succ,List.cons_append];refine⟨?_,?_⟩
   ·rw[← ih.1]
    simp[dec]
   ·rw[← ih.2,List.all_cons]
    rfl
theorem readW_digits {l:List UInt8}(h0:l ≠ [])(h:l.all isD=true):readW l=(((min (dec l) farN:Nat):Int),0):=by
 cases l with
 |nil=>exact absurd rfl h0
 | cons b r =>
   have hb:¬ b.toNat=45:=by
    have:=List.all_eq_true.1 h b (by simp);simp only[isD,Bool.and_eq_true,decide_eq_true_eq]at this;omega
   exact pos_some hb (readN_some (by simp) rfl h)
theorem readW_noughts (k u:Nat):readW (List.replicate k 48++Lib.decDigits u)=(((min u farN:Nat):Int),0):=by
 obtain⟨h1,h2,h3⟩:=dd_all u;obtain⟨e1,e2⟩:=dec_noughts k (Lib.decDigits u);rw[readW_digits (by simp[h3]) (e2.trans h2),e1,h1]
theorem readW_itoa (n:Int):readW (Lib.itoa n)=(max (min n 4611686018427387904) (-4611686018427387904),0):=by
 unfold Lib.itoa;by_cases h:n<0
 ·rw[if_pos h]
  obtain⟨h1,h2,h3⟩:=dd_all n.natAbs;rw[neg_some (b:=45) rfl (readN_some h3 rfl h2),h1]
  congr 1
  unfold farN;omega
 ·rw[if_neg h]
  have:=readW_noughts 0 n.toNat;rw[List.replicate_zero,List.nil_append]at this;rw[this]
  congr 1
  unfold farN;omega
theorem itoa_len (n:Int)(h0 : -9223372036854775808≤n)(h1:n≤9223372036854775807):(Lib.itoa n).length≤21:=Lib.itoa_length_le n h0 h1
end Go.Proofs.YtjpkkkphhaajgaaGreatDoor.scn
namespace Go.Proofs.YtjpkkkphhaajgaaGreatDoor.wcp
open Go RowKit ChangeShapes WideShapes ChangeAt words scn
def RS {α:Type}(w:World)(gr gs:Nat)(bs:List UInt8)(wb:Int)(sv:Value)(r:Res α):Prop :=
 match r with
 | .ok _ s=>Rok w gr gs bs wb s sv
 | .bad e x=>Rbad w gr gs e x sv
variable {w:World} {gr gs:Nat} {bs:List UInt8} {wb:Int} {sv:Value} {α:Type} {r:Res α}
theorem RS.ok {a:α}{s:Ps}(h:Rok w gr gs bs wb s sv):RS w gr gs bs wb sv (.ok a s):=h
theorem RS.bad {e x:Int}(h:Rbad w gr gs e x sv):RS w gr gs bs wb sv (.bad e x:Res α):=h
theorem RS.blk (h:RS w gr gs bs wb sv r):∃bad big badAt bigAt told,RdB w gr gs bad big badAt bigAt told sv∧decide (bad=0)=r.good∧(∀a s,r = .ok a s→s.told=told):=by
 cases r with
 | ok a s =>
   obtain⟨p,big,badAt,bigAt,hr,_⟩:=h
   exact⟨_,_,_,_,_,hr,decide_eq_true rfl,fun a' s' h=>by injection h with _ h;rw[h]⟩
 | bad e x =>
   obtain⟨big,bigAt,told,hr,he⟩:=h;exact⟨_,_,_,_,_,hr,decide_eq_false he,fun a' s' h=>by cases h⟩
theorem RS.tch {w':World}{S:Nat→Prop}(h:RS w gr gs bs wb sv r)(ht:Tch w w' S)(h1:¬ S gr)(h2:¬ S gs)(hs:∀k cs,S k→¬ Blk w k 5 cs):RS w' gr gs bs wb sv r:=by
 cases r with
 |ok a s=>exact Rok.tch h ht h1 h2 hs
 |bad e x=>exact Rbad.tch h ht h1
theorem RS.below {w':World}(h:RS w gr gs bs wb sv r)(hb:Below w.heap.size w w'):RS w' gr gs bs wb sv r:=by
 cases r with
 |ok a s=>exact Rok.below h hb
 |bad e x=>exact Rbad.tch h (Tch.of_below hb (fun _=>False)) id
theorem RS.grown {w':World}{base n:Nat}{e:TypeId}{sz:Nat}{v:Value}{xs:List Value}(h:RS w gr gs bs wb sv r)(ho:w.ownsRow base e sz v n xs)(hg:w.grownBy w' v.ownBlock)(he:e≠5)(h1:gr<base)(h2:gs<base):RS w' gr gs bs wb sv r:=by
 cases r with
 |ok a s=>exact Rok.grown h ho hg he h1 h2
 |bad e x=>exact Rbad.grown h ho hg h1
theorem RS.same {β:Type}{r':Res β}(h:RS w gr gs bs wb sv r)(h1:∀a s,r = .ok a s→∃b,r' = .ok b s)(h2:∀e x,r = .bad e x→r' = .bad e x):RS w gr gs bs wb sv r':=by
 cases r with
 |ok a s=>obtain⟨b,hb⟩:=h1 a s rfl;rw[hb];exact h
 |bad e x=>rw[h2 e x rfl];exact h
theorem ok_un (h:RS w gr gs bs wb sv r):Calls Tryz.prog 78 #[.pointer (some ⟨gr,0,none⟩)] w fun e w'=>e = .returned (.bool r.good)∧w=w':=by
 obtain⟨bad,big,badAt,bigAt,told,hr,hb,_⟩:=h.blk;rw[← hb];exact ok_any hr
def NumU (w:World)(gr gs:Nat)(bs:List UInt8)(wb:Int)(lo hi:Int)(r:Res α)(sv:Value)(e:Ending)(w':World):Prop :=
 ∃ (n x:Int),e = .returned (.tuple #[.int .i64 n,.int .i64 x])∧Tch w w' (fun k=>k=gr∨k=gs) ∧
  RS w' gr gs bs wb sv (r.bind fun _ s=>pnum (enOf bs wb) (eeOf wb) lo hi s) ∧
  (∀v s',(r.bind fun _ s=>pnum (enOf bs wb) (eeOf wb) lo hi s) = .ok v s'→n=v.1∧x=v.2) ∧
  ((r.bind fun _ s=>pnum (enOf bs wb) (eeOf wb) lo hi s).good=false→n=0)
theorem rnum_un (h:RS w gr gs bs wb sv r)(hne:gr≠gs)(hn:bs.length≤1000000)(lo hi:Int) :
 Calls Tryz.prog 77 #[.pointer (some ⟨gr,0,none⟩),.int .i64 lo,.int .i64 hi] w fun e w'=>NumU w gr gs bs wb lo hi r sv e w':=by
 cases r with
 | ok a s =>
   refine (rnum_any h hne hn lo hi).mono ?_;rintro e w' ⟨n,x,rfl,ht,hm⟩;refine⟨n,x,rfl,ht,?_⟩;rw[Res.bind_ok]
   cases hp:pnum (enOf bs wb) (eeOf wb) lo hi s with
   | ok v s' =>
     rw[hp]at hm;dsimp only at hm
     exact⟨hm.2.2,⟨fun v' s'' he=>(by injection he with he _;rw[← he];exact⟨hm.1,hm.2.1⟩),fun hf=>(by cases hf)⟩⟩
   | bad e x =>
     rw[hp]at hm;dsimp only at hm
     exact⟨hm.2,⟨fun v' s'' he=>(by cases he),fun _=>hm.1⟩⟩
 | bad er at_ =>
   refine (rnum_bad h lo hi).mono ?_;rintro e w' ⟨rfl,rfl⟩;exact⟨0,0,rfl,Tch.refl _ _,h,⟨fun v' s'' he=>(by cases he),fun _=>rfl⟩⟩
theorem NumU.range {lo hi:Int}{n x:Int}{β:Type}{r:Res β}{en ee:Int}(h1:∀v s',(r.bind fun _ s=>pnum en ee lo hi s) = .ok v s'→n=v.1∧x=v.2)(h2:(r.bind fun _ s=>pnum en ee lo hi s).good=false→n=0)(h0:lo≤0)(h0':0≤hi):lo≤n∧n≤hi:=by
 cases hp:(r.bind fun _ s=>pnum en ee lo hi s) with
 |bad e y=>rw[hp]at h2;have:=h2 rfl;omega
 | ok v s' =>
   obtain⟨e1,_⟩:=h1 v s' hp
   cases r with
   |bad e y=>cases hp
   | ok a s =>
     obtain⟨p1,p2,_⟩:=pnum_ok (show pnum en ee lo hi s = .ok v s' from hp);omega
theorem wrong_un {a:α}{s:Ps}(h:Rok w gr gs bs wb s sv)(er x:Int)(he:er≠0):Calls Tryz.prog 81 #[.pointer (some ⟨gr,0,none⟩),.int .i64 er,.int .i64 x] w fun e w' =>
 (∃v,e = .returned v)∧Rbad w' gr gs er x sv∧Tch w w' fun k=>k=gr:=by
 obtain⟨p,big,badAt,bigAt,hr,_⟩:=h;refine (wrong_any hr er x).mono ?_;rintro e w' ⟨hv,hc,ht⟩;refine⟨hv,?_,ht⟩;rcases hc with⟨_,hc⟩ | ⟨h0,_⟩
 ·exact⟨_,_,_,hc,he⟩
 ·exact absurd rfl h0
theorem large_un (h:RS w gr gs bs wb sv r)(hne:gr≠gs)(is:Bool)(x:Int):Calls Tryz.prog 76 #[.pointer (some ⟨gr,0,none⟩),.bool is,.int .i64 x] w fun e w' =>
 (∃v,e = .returned v)∧RS w' gr gs bs wb sv (r.bind fun a s => .ok a (plarge is x s))∧Tch w w' fun k=>k=gr:=by
 cases r with
 | ok a s =>
   obtain⟨p,big,badAt,bigAt,hr,hs,hl,hg⟩:=h;refine (large_any hr is x).mono ?_;rintro e w' ⟨hv,hc,ht⟩;refine⟨hv,?_,ht⟩;have hgr:gr<w.heap.size:=Blk.lt hr
   have hs':=hs.tch ht (fun e=>hne e.symm) fun k cs hk hb=>by
    subst hk;exact Blk.ne_ hr hb (by decide) rfl
   rw[Res.bind_ok];show Rok w' gr gs bs wb (plarge is x s) sv;obtain⟨l1,l2,l3⟩:=plarge_l is x s;rcases hc with⟨h1,h2,h3,hc⟩ | ⟨h1,hc⟩
   ·refine⟨p,5,badAt,x,by rw[l3];exact hc,hs',by rw[l1];exact hl,?_⟩
    have hb:s.big=none:=by
     rcases hg with⟨hb,_⟩ | ⟨y,_,h5,_⟩
     ·exact hb
     ·omega
    unfold plarge;rw[if_pos ⟨h1,hb⟩];exact .inr ⟨x,rfl,rfl,rfl⟩
   ·refine⟨p,big,badAt,bigAt,by rw[l3];exact hc,hs',by rw[l1];exact hl,?_⟩
    have hb:¬ (is=true∧s.big=none):=fun⟨hi,hb⟩=>by
     rcases hg with⟨_,h0⟩ | ⟨y,h5,_⟩
     ·exact h1 ⟨hi,h0,rfl⟩
     ·rw[hb]at h5;cases h5
    unfold plarge;rw[if_neg hb]
    exact hg
 | bad er at_ =>
   obtain⟨big,bigAt,told,hr,he⟩:=h;refine (large_any hr is x).mono ?_;rintro e w' ⟨hv,hc,ht⟩;refine⟨hv,?_,ht⟩;rcases hc with⟨h1,h2,h3,hc⟩ | ⟨h1,hc⟩
   ·exact absurd h3 he
   ·exact⟨_,_,_,hc,he⟩
theorem tab_tch {w':World}{S:Nat→Prop}(h:Tab w)(ht:Tch w w' S)(hs:¬ S 0):Tab w':=by
 have hl:=h.lt;unfold Tab Lib.TabIs World.var? at h ⊢;rw[gPow]at h ⊢;simp only[Option.bind_some]at h ⊢;rw[ht.block _ hl hs];exact h
end Go.Proofs.YtjpkkkphhaajgaaGreatDoor.wcp
namespace Go.Proofs.YtjpkkkphhaajgaaGreatDoor.wcp
open Go RowKit ChangeShapes WideShapes ChangeAt Maps words scn
theorem own_is {w:World}{base:Nat}{e:TypeId}{size:Nat}{v:Value}{n:Nat}{xs:List Value}(h:w.ownsRow base e size v n xs){q:Nat}(hq:v.ownBlock=some q):∃cs,Blk w q e cs:=by
 rcases h.2 with⟨rfl,_⟩ | ⟨g,cap,cur,rfl,hb,hg,_⟩
 ·cases hq
 ·injection hq with hq;subst hq;exact⟨_,hg⟩
def Row64 (w:World)(base:Nat)(v:Value)(xs:List Int):Prop:=(∃A c,v = .slice A xs.length c)∧w.ownsRow base 2 1 v xs.length (nums xs)
abbrev LT:=Value × List Int × Int
def lcells (L:List LT):List Value:=L.flatMap fun p => [p.1,.int .i64 p.2.2]
def LRow (w:World)(base:Nat)(v:Value)(L:List LT):Prop:=(∃A c,v = .slice A L.length c)∧w.ownsRow base 236 2 v L.length (lcells L)∧∀p∈L,Row64 w base p.1 p.2.1
def LinesOwn (w:World)(base:Nat)(v:Value)(ls:List (List Int × Int)):Prop := ∃L:List LT,L.map (·.2)=ls∧LRow w base v L
abbrev ST:=Value × Value × (List Int × List (List Int × Int))
def shcells (L:List ST):List Value:=L.flatMap fun p => [p.1,p.2.1]
def ShV (w:World)(sv:Value)(sh:List (List Int × List (List Int × Int))):Prop :=
 ∃L:List ST,L.map (·.2.2)=sh∧(∃A c,sv = .slice A L.length c)∧w.ownsRow 0 233 2 sv L.length (shcells L)∧∀p∈L,Row64 w 0 p.1 p.2.2.1∧LinesOwn w 0 p.2.1 p.2.2.2∧p.2.2.1.length≤1000000
def Off (w:World)(base:Nat)(S:Nat→Prop)(t:TypeId):Prop := ∀k,S k→k<base∨∀cs,¬ Blk w k t cs
variable {w w':World} {S:Nat→Prop} {base:Nat} {v:Value}
theorem off_below {t:TypeId}(h:∀k,S k→k<base):Off w base S t:=fun k hk => .inl (h k hk)
theorem off_own {t:TypeId}{b0 n sz:Nat}{e:TypeId}{u:Value}{xs:List Value}(ho:w.ownsRow b0 e sz u n xs)(hne:e≠t):Off w base (fun k=>some k=u.ownBlock) t:=fun k hk => .inr fun cs hb=>own_blk_ne ho hb hne hk.symm
theorem own_off {e:TypeId}{sz n:Nat}{xs:List Value}(h:w.ownsRow base e sz v n xs)(ht:Tch w w' S)(ho:Off w base S e):w'.ownsRow base e sz v n xs :=
 ht.own h fun g hg hs=>by
  rcases ho g hs with h1 | h1
  ·have:=(own_in h hg).1;omega
  ·obtain⟨cs,hb⟩:=own_is h hg;exact h1 cs hb
theorem Row64.tch {xs:List Int}(h:Row64 w base v xs)(ht:Tch w w' S)(ho:Off w base S 2):Row64 w' base v xs:=⟨h.1,own_off h.2 ht ho⟩
theorem LRow.tch {L:List LT}(h:LRow w base v L)(ht:Tch w w' S)(h1:Off w base S 2)(h2:Off w base S 236):LRow w' base v L :=
 ⟨h.1,own_off h.2.1 ht h2,fun p hp=>(h.2.2 p hp).tch ht h1⟩
theorem LinesOwn.tch {ls:List (List Int × Int)}(h:LinesOwn w base v ls)(ht:Tch w w' S)(h1:Off w base S 2)(h2:Off w base S 236):LinesOwn w' base v ls:=by
 obtain⟨L,hL,hr⟩:=h;exact⟨L,hL,hr.tch ht h1 h2⟩
theorem ShV.tch {sh:List (List Int × List (List Int × Int))}(h:ShV w v sh)(ht:Tch w w' S)(h1:Off w 0 S 2)(h2:Off w 0 S 236)(h3:Off w 0 S 233):ShV w' v sh:=by
 obtain⟨L,hL,hs,ho,hp⟩:=h;exact⟨L,hL,hs,own_off ho ht h3,fun p hm=>⟨(hp p hm).1.tch ht h1,(hp p hm).2.1.tch ht h1 h2,(hp p hm).2.2⟩⟩
theorem Row64.down {b':Nat}{xs:List Int}(h:Row64 w base v xs)(hb:b'≤base):Row64 w b' v xs:=⟨h.1,own_base h.2 hb⟩
theorem LRow.down {b':Nat}{L:List LT}(h:LRow w base v L)(hb:b'≤base):LRow w b' v L:=⟨h.1,own_base h.2.1 hb,fun p hp=>(h.2.2 p hp).down hb⟩
theorem LRow.nil (w:World)(base:Nat):LRow w base (.slice none 0 0) []:=⟨⟨none,0,rfl⟩,World.ownsRow_nil _ _ _ _,fun p hp=>by cases hp⟩
theorem LinesOwn.nil (w:World)(base:Nat):LinesOwn w base (.slice none 0 0) []:=⟨[],rfl,LRow.nil w base⟩
theorem LinesOwn.down {b':Nat}{ls:List (List Int × Int)}(h:LinesOwn w base v ls)(hb:b'≤base):LinesOwn w b' v ls:=by
 obtain⟨L,hL,hr⟩:=h;exact⟨L,hL,hr.down hb⟩
theorem Rok.off {gr gs:Nat}{bs:List UInt8}{wb:Int}{s:Ps}{sv:Value}(h:Rok w gr gs bs wb s sv){t:TypeId}(h1:146≠t)(h2:228≠t):Off w base (fun k=>k=gr∨k=gs) t:=by
 obtain⟨p,big,badAt,bigAt,hr,⟨A,c,hs,_⟩,_⟩:=h;rintro k (rfl | rfl)
 ·exact .inr fun cs hb=>Blk.ne_ hr hb h1 rfl
 ·exact .inr fun cs hb=>Blk.ne_ hs hb h2 rfl
theorem shc_at {L:List ST}{i:Nat}{p:ST}(h:L[i]?=some p):(shcells L)[i*2]?=some p.1∧(shcells L)[i*2+1]?=some p.2.1:=by
 induction L generalizing i with
 |nil=>simp at h
 | cons q L ih =>
   cases i with
   |zero=>simp at h;subst h;exact⟨rfl,rfl⟩
   | succ i =>
     have:=ih (i:=i) (by simpa using h);rw[show (i+1)*2=i*2+1+1 by omega];exact this
theorem lc_snoc (L:List LT)(p:LT):lcells (L ++ [p])=lcells L ++ [p.1,.int .i64 p.2.2]:=by simp[lcells]
def Sn (D:DataW Unit)(ts:List (List Int)):Prop := ∀t:List Int,(∀v∈t,0≤v∧v≤4611686018427387904)→D.atKey (.string (keyB t)) (.lit (.int .i64 0)) = .lit (.int .i64 (if t∈ts then 1 else 0))
theorem sn_empty:Sn (.map []) []:=fun t _=>rfl
theorem itoa_space (v:Int):∀c∈Lib.itoa v,c≠32:=by
 have hd:∀u,∀c∈Lib.decDigits u,c≠32:=fun u c hc=>by
  have:=List.all_eq_true.1 (dd_all u).2.1 c hc;simp only[isD,Bool.and_eq_true,decide_eq_true_eq]at this;rintro rfl;have h3:(32:UInt8).toNat=32:=rfl;omega
 intro c hc;unfold Lib.itoa at hc;split at hc
 ·rcases List.mem_cons.1 hc with rfl | hc
  ·decide
  ·exact hd _ c hc
 ·exact hd _ c hc
theorem key_inj {a b:List Int}(ha:∀v∈a,0≤v∧v≤4611686018427387904)(hb:∀v∈b,0≤v∧v≤4611686018427387904)(h:keyB a=keyB b):a=b :=
 keyB_inj itoa_space (fun v=>0≤v∧v≤4611686018427387904) (fun u v hu hv he=>by
  have h1:=readW_itoa u;have h2:=readW_itoa v;rw[he,h2]at h1;injection h1 with h1 _
  omega) ha hb h
theorem sn_put {D:DataW Unit}{ts:List (List Int)}{t:List Int}(h:Sn D ts)(hm:IsMap D)(ht:∀v∈t,0≤v∧v≤4611686018427387904):Sn (D.put (.string (keyB t)) (.lit (.int .i64 1))) (ts ++ [t]):=by
 intro u hu;have hk:WideAt.IsKeyLit (.string (keyB t)):=trivial;by_cases e:u=t
 ·subst e
  rw[atKey_put_same hm hk,if_pos (by simp)]
 ·have hne:Lit.string (keyB u)≠Lit.string (keyB t):=fun h=>e (key_inj hu ht (by injection h))
  rw[atKey_put_other hne,h u hu];by_cases hm:u∈ts
  ·rw[if_pos hm,if_pos (by simp[hm])]
  ·rw[if_neg hm,if_neg (by simp[hm,e])]
end Go.Proofs.YtjpkkkphhaajgaaGreatDoor.wcp
namespace Go.Proofs.YtjpkkkphhaajgaaGreatDoor.wcp
open Go RowKit ChangeShapes WideShapes ChangeAt Maps words scn
theorem zeroI (w:World):(zeroValue 3).run Tryz.prog w = .ok (.int .i64 0) w:=by kernel_rfl
theorem infoL:(Tryz.prog.info? 236).map (fun i=>(i.zero,i.size,i.bytes))=some (some (.agg #[.slice none 0 0,.int .i64 0]),2,32):=by kernel_rfl
theorem info64:(Tryz.prog.info? 2).map (fun i=>(i.zero,i.size,i.bytes))=some (some (.int .i64 0),1,8):=by kernel_rfl
def prest (en ee:Int)(sizes:List Int)(n:Int × Int)(s:Ps):Res (List (List Int × Int)) :=
 if n.1<0 then
  (match s.sh[(-n.1-1).toNat]? with
   |none => .bad 4 n.2
   |some x=>if x.1=sizes then .ok x.2 s else .bad 4 n.2)
 else plines en ee sizes n.1.toNat [] (plarge (decide (min (s.told+n.1) far>16384)) n.2 { s with told:=min (s.told+n.1) far })
theorem pall_rest {α:Type}(en ee:Int)(sizes:List Int)(r:Res α):(r.bind fun _ s=>pall en ee sizes s)=(r.bind fun _ s=>pnum en ee (-far) far s).bind (prest en ee sizes):=by
 rw[Res.bind_assoc];rfl
variable {w:World} {gr gs:Nat} {bs:List UInt8} {wb:Int} {sv:Value} {α:Type} {r:Res α}
def LinesR (w:World)(gr gs:Nat)(bs:List UInt8)(wb:Int)(sizes:List Int)(r:Res α)(sv:Value)(e:Ending)(w':World):Prop :=
 ∃v ls,e = .returned v∧Tch w w' (fun k=>k=gr∨k=gs)∧LinesOwn w' 0 v ls ∧
  RS w' gr gs bs wb sv (r.bind fun _ s=>pall (enOf bs wb) (eeOf wb) sizes s)∧(∀a s',(r.bind fun _ s=>pall (enOf bs wb) (eeOf wb) sizes s) = .ok a s'→a=ls)
def Lns (w wr:World)(gr gs:Nat)(bs:List UInt8)(wb:Int)(sizes:List Int)(k:Nat)(s3:Ps)(sv:Value)(b:Nat)(ov:Value)(i:Nat)(L:List LT)(D:DataW Unit):Prop :=
 LRow wr w.heap.size ov L∧wr.ownsMap Tryz.prog 9 (plainElem Tryz.prog 3) b i D∧w.heap.size≤b∧Tch w wr (fun q=>q=gr∨q=gs)∧L.length=i∧i≤k ∧
 RS wr gr gs bs wb sv (plines (enOf bs wb) (eeOf wb) sizes i [] s3)∧(∀out s',plines (enOf bs wb) (eeOf wb) sizes i [] s3 = .ok out s'→L.map (·.2)=out∧Sn D (L.map (·.2.1)))
def Tpl (wr wc:World)(gr gs:Nat)(bs:List UInt8)(wb:Int)(sizes:List Int)(s4:Ps)(sv:Value)(xb:Nat)(kv:Value)(j:Nat)(t:List Int)(A:Option Addr)(c:Nat):Prop :=
 kv=strV (keyB t)∧t.length=j∧(∀v∈t,0≤v∧v≤4611686018427387904)∧Blk wc xb 236 #[.slice A t.length c,.int .i64 0] ∧
 wc.ownsRow (xb+1) 2 1 (.slice A t.length c) t.length (nums t)∧RS wc gr gs bs wb sv (ptup (enOf bs wb) (eeOf wb) (sizes.take j) [] s4) ∧
 (∀t' s',ptup (enOf bs wb) (eeOf wb) (sizes.take j) [] s4 = .ok t' s'→t'=t)∧Tch wr wc (fun q=>q=gr∨q=gs)∧xb<wc.heap.size
theorem tup_next {en ee:Int}{sizes:List Int}{j:Nat}{y:Int}(hy:sizes[j]?=some y)(s4:Ps):ptup en ee (sizes.take (j+1)) [] s4=(ptup en ee (sizes.take j) [] s4).bind fun t s=>(pnum en ee 0 (y-1) s).bind fun v s => .ok (t ++ [v.1]) s:=by
 rw[List.take_add_one,hy];exact ptup_snoc _ _ _
theorem RS.next {wz:World}{en ee:Int}{A:Res (List Int)}{y:Int}(h:RS wz gr gs bs wb sv (A.bind fun _ s=>pnum en ee 0 (y-1) s)):RS wz gr gs bs wb sv (A.bind fun t s=>(pnum en ee 0 (y-1) s).bind fun v s => .ok (t ++ [v.1]) s) :=
 h.same (fun a s e=>by
  cases A with
  |bad e0 x0=>cases e
  | ok t s0 =>
    rw[Res.bind_ok]at e ⊢;rw[e]
    exact⟨_,rfl⟩) fun e0 x0 e=>by
  cases A with
  |bad e1 x1=>rw[Res.bind_bad]at e ⊢;injection e with h1 h2;rw[h1,h2]
  | ok t s0 =>
    rw[Res.bind_ok]at e ⊢;rw[e];rfl
theorem map_tch {w w':World}{S:Nat→Prop}{K:TypeId}{R:Value→Option (DataW Unit × List MemPlace)}{b n:Nat}{D:DataW Unit}(h:w.ownsMap Tryz.prog K R b n D)(ht:Tch w w' S)(hn:¬ S b):w'.ownsMap Tryz.prog K R b n D:=by
 have hl:=World.ownsMap.lt h;obtain⟨es,clock,hb,r⟩:=h;exact⟨es,clock,(ht.block b hl hn).trans hb,r⟩
theorem pline_cases {en ee:Int}{sizes:List Int}{out:List (List Int × Int)}{s4:Ps}{tt:List Int}{c xc:Int}(htq:∀t' s',ptup en ee sizes [] s4 = .ok t' s'→t'=tt)
 (hv:∀v s',((ptup en ee sizes [] s4).bind fun _ s=>pnum en ee 0 far s) = .ok v s'→c=v.1∧xc=v.2) :
 (∃er x,((ptup en ee sizes [] s4).bind fun _ s=>pnum en ee 0 far s) = .bad er x∧pline (en:=en) (ee:=ee) sizes out s4 = .bad er x) ∨
 (∃s6,((ptup en ee sizes [] s4).bind fun _ s=>pnum en ee 0 far s) = .ok (c,xc) s6∧pline (en:=en) (ee:=ee) sizes out s4=if tt∈out.map Prod.fst then .bad 4 xc else .ok (out ++ [(tt,c)]) s6):=by
 unfold pline
 cases hp:ptup en ee sizes [] s4 with
 |bad e x=>exact .inl ⟨e,x,rfl,rfl⟩
 | ok t s5 =>
   rw[hp]at hv;rw[htq t s5 hp,Res.bind_ok,Res.bind_ok];rw[Res.bind_ok]at hv
   cases hq:pnum en ee 0 far s5 with
   |bad e x=>exact .inl ⟨e,x,rfl,rfl⟩
   | ok v s6 =>
     obtain⟨rfl,rfl⟩:=hv v s6 hq;exact .inr ⟨s6,rfl,rfl⟩
set_option maxRecDepth 100000 in
set_option maxHeartbeats 8000000 in
theorem lines_any {u0:α}{s:Ps}(h:Rok w gr gs bs wb s sv)(hne:gr≠gs)(hgr:gr<w.heap.size)(hgs:gs<w.heap.size)(hn:bs.length≤1000000)(ht:Tab w)(hG1:0<gr)(hG2:0<gs)
 (A:Option Addr) (c0:Nat) (sizes:List Int) (hsr:w.ownsRow 0 2 1 (.slice A sizes.length c0) sizes.length (nums sizes)) (hs1:∀y∈sizes,1≤y∧y≤4611686018427387904) (hsl:sizes.length≤1000000)
 (ht0:0≤s.told) (ht1:s.told≤1000000) (hsh:ShV w sv s.sh) (hshl:s.sh.length≤1000000) :
 Calls Tryz.prog 135 #[.pointer (some ⟨gr,0,none⟩),.slice A sizes.length c0] w fun e w'=>LinesR w gr gs bs wb sizes (.ok u0 s:Res α) sv e w':=by
 obtain⟨iL,hL0,hL1,hL2,hL3⟩:=info_parts infoL;obtain⟨i6,h60,h61,h62,h63⟩:=info_parts info64;have hmm:=@run_makeMap Tryz.prog;have hnum:=rnum_any h hne hn (-4611686018427387904) 4611686018427387904;have O64:=Hd (h.off (base:=0) (t:=2) (by decide) (by decide));have OL:=Hd (h.off (base:=0) (t:=236) (by decide) (by decide));have OS:=Hd (h.off (base:=0) (t:=233) (by decide) (by decide));have HLEFT:=Hd h.left;have HTAB:=Hd ht;have HSR:=Hd hsr;have HSH:=Hd hsh;clear h ht hsr hsh
 go_enter Tryz.func135,Tryz.ntmps135
 go_wp2_with fail;refine hnum.mono ?_;rintro e w1 ⟨n,x,rfl,ht1',hm1⟩;have HT1:=Hd ht1';have HPN:Hid (∀en ee:Int,pnum en ee (-4611686018427387904) 4611686018427387904=pnum en ee (-far) far):=fun _ _=>rfl
 clear hnum ht1'
 cases hp:pnum (enOf bs wb) (eeOf wb) (-4611686018427387904) 4611686018427387904 s with
 | bad er at_ =>
   rw[hp]at hm1;dsimp only at hm1;obtain⟨rfl,hb1⟩:=hm1
   have HGOAL:Hid (((.ok u0 s:Res α).bind fun _ s=>pall (enOf bs wb) (eeOf wb) sizes s) = .bad er at_):=by
    show pall (enOf bs wb) (eeOf wb) sizes s=_;unfold pall;rw[show pnum (enOf bs wb) (eeOf wb) (-far) far s = .bad er at_ from hp];rfl
   clear hp;obtain⟨big,bigAt,told,hr1,he1⟩:=hb1;have hok:=ok_any hr1;rw[decide_eq_false he1]at hok;obtain⟨q0,q1,q2,q3,q4,q5,q6,qf⟩:=hr1.cells;have f5:=qf 5;have HR1:=Hd hr1;have HE1:=Hd he1;obtain⟨T1,hT1⟩:∃T1,IntKind.i64.wrap (told+0)=T1:=⟨_,rfl⟩;clear hr1 he1 q0 q1 q2 q3 q4 q6 qf;go_wp2_with fail;refine hok.mono ?_;rintro e w2 ⟨rfl,rfl⟩;clear hok;go_wp2_with fail;have hR2:Rbad (w1.setCell ⟨gr,5,none⟩ (.int .i64 (min (wrap64 told) 4611686018427387904))) gr gs er at_ sv:=⟨big,bigAt,_,HR1.out.set_ 5 _,HE1.out⟩;have hlg:=large_un (r:=(.bad er at_:Res Unit)) (gs:=gs) (bs:=bs) (wb:=wb) (RS.bad hR2) hne (decide (16384<min (wrap64 told) 4611686018427387904)) x;refine hlg.mono ?_;rintro e w3 ⟨⟨v3,rfl⟩,hrs3,ht3⟩;have HRS3:Hid (Rbad w3 gr gs er at_ sv):=hrs3;have HT3:=Hd ((HT1.out.trans (Tch.put (S:=fun k=>k=gr∨k=gs) (Tch.refl w1 _) (p:=⟨gr,5,none⟩) (.int .i64 (min (wrap64 told) 4611686018427387904)) (.inl rfl)) fun _ _ h=>h).trans (ht3.mono (S':=fun k=>k=gr∨k=gs) fun k _ h=>Or.inl h) fun _ _ h=>h);clear hlg hrs3 ht3 hR2 q5 f5 hT1;go_wp2_with fail
   go_loopw [8,9,10,11,13,14,15,16,17,95] (fun ov iv _ _ _ _ _ _ _ _ wr=>ov = .slice none 0 0∧iv = .int .i64 0∧wr=w3.alloc (.map #[] 0)) (fun _ _ _ _ _ _ _ _ _ _ _=>0)
   case atStart=>exact⟨rfl,rfl,rfl⟩
   case round =>
    obtain⟨rfl,rfl,rfl⟩:=hrel;go_wp2_with fail;go_ret;refine⟨.slice none 0 0,[],rfl,HT3.out.trans (Tch.of_below (bone w3 _) (fun _=>False)) fun _ _ h=>h.elim,LinesOwn.nil _ _,?_⟩;rw[HGOAL.out]
    exact⟨Rbad.tch HRS3.out (Tch.of_below (bone w3 _) (fun _=>False)) id,fun a s' he=>by cases he⟩
 | ok nv s1 =>
   rw[hp]at hm1;dsimp only at hm1;obtain⟨rfl,rfl,hr1⟩:=hm1;obtain⟨n,xx⟩:=nv;obtain⟨p1,p2,p3,p4,p5,p6⟩:=pnum_ok hp;dsimp only at p1 p2
   have HGOAL:Hid (((.ok u0 s:Res α).bind fun _ s=>pall (enOf bs wb) (eeOf wb) sizes s)=prest (enOf bs wb) (eeOf wb) sizes (n,xx) s1):=by
    rw[pall_rest,Res.bind_ok,show pnum (enOf bs wb) (eeOf wb) (-far) far s = .ok (n,xx) s1 from hp];rfl
   clear hp;dsimp only;have HRK:=Hd hr1;obtain⟨p,big,badAt,bigAt,hrb,hsc,hlf,hbg⟩:=hr1;have hok:=ok_any hrb;rw[decide_eq_true rfl]at hok;obtain⟨q0,q1,q2,q3,q4,q5,q6,qf⟩:=hrb.cells;have f5:=qf 5;have HRB:=Hd hrb;clear hrb hsc hlf hbg q0 q1 q2 q3 q4 qf;by_cases hneg:n<0
   ·have hnegI:decide (n<0)=true:=decide_eq_true hneg
    obtain⟨m,hm⟩:∃m:Nat,n = -((m:Int)+1):=⟨(-n-1).toNat,by omega⟩;have hw2 : -n=(m:Int)+1:=by omega
    have HM:=Hd hm
    have HPR:Hid (prest (enOf bs wb) (eeOf wb) sizes (n,xx) s1=(match s.sh[m]? with | none => .bad 4 xx | some x=>if x.1=sizes then .ok x.2 s1 else .bad 4 xx)):=by
     unfold prest;rw[if_pos hneg,p3,show (-(n,xx).1-1).toNat=m by dsimp only;omega];rfl
    obtain⟨SL,hSL,⟨SA,sc,rfl⟩,hso,hsp⟩:=HSH.out.tch HT1.out O64.out OL.out OS.out;have hSLl:SL.length=s.sh.length:=by rw[← hSL];simp
    have HSLL:=Hd hSLl;have HSL:=Hd hSL;have hSb:SL.length≤1000000:=by omega
    by_cases hbig:SL.length<m+1
    ·have hbI:decide ((SL.length:Int)<(m:Int)+1)=true:=decide_eq_true (by omega)
     have hwr:=wrong_un (a:=()) HRK.out 4 xx (by decide);clear hso hsp hm hSLl hSL q5 f5;go_wp2_with fail;refine hok.mono ?_;rintro e w2 ⟨rfl,rfl⟩;clear hok;go_wp2_with fail;refine hwr.mono ?_;rintro e w2 ⟨⟨v2,rfl⟩,hrd,ht2⟩;clear hwr;go_wp2_with fail;go_ret;refine⟨.slice none 0 0,[],rfl,HT1.out.trans (ht2.mono (S':=fun k=>k=gr∨k=gs) fun k _ h=>Or.inl h) fun _ _ h=>h,LinesOwn.nil _ _,?_⟩;rw[HGOAL.out,HPR.out,List.getElem?_eq_none (by rw[← HSLL.out];omega)];exact⟨hrd,fun a s' he=>by cases he⟩
    ·have hbI:decide ((SL.length:Int)<(m:Int)+1)=false:=decide_eq_false (by omega)
     obtain⟨pp,hpp⟩:∃pp,SL[m]?=some pp:=⟨_,List.getElem?_eq_getElem (by omega)⟩;obtain⟨sq,rfl,_,_⟩:=own_some hso (by omega);obtain⟨e1,e2⟩:=shc_at hpp;have cs0:=(hso.cellAt (m*2) (by omega)).trans e1;have cs1:=(hso.cellAt (m*2+1) (by omega)).trans e2;obtain⟨hrow,hlin,hrl⟩:=hsp pp (List.mem_of_getElem? hpp);have hshm:Hid (s.sh[m]?=some pp.2.2):=by rw[Hid,← HSL.out,List.getElem?_map,hpp];rfl
     obtain⟨pv,pl,psz,pls⟩:=pp;dsimp only at cs0 cs1 hrow hlin hshm e1 e2 hrl;obtain⟨⟨RA,rc,rfl⟩,hro⟩:=hrow;have heq:=equal64_any RA A psz.length sizes.length rc c0 psz sizes w1 (by omega) (by omega) (Reads.of_own hro) (Reads.of_own (own_off HSR.out HT1.out O64.out));have HLIN:=Hd hlin;have wm1:wrap64 ((m:Int)+1-1)=(m:Int):=by unfold wrap64;omega
     have i0:(0:Int)≤(m:Int):=Int.natCast_nonneg _;have i1:(m:Int)<(SL.length:Int):=by omega
     clear hso hsp hm hSLl hSL q5 f5 hro hlin e1 e2 hpp;have hsqlt:sq<w1.heap.size:=by rename_i hh;exact hh
     have hgrlt:gr<w1.heap.size:=Blk.lt HRB.out;by_cases hes:psz=sizes
     ·rw[show eqB psz sizes=true from decide_eq_true hes]at heq
      have HES:=Hd hes;clear hes;go_wp2_with fail;refine hok.mono ?_;rintro e w2 ⟨rfl,rfl⟩;clear hok;go_wp2_with fail;refine heq.mono ?_;rintro e w2 ⟨rfl,hb2⟩;clear heq;have d1:=((bcell hb2).1 gr 6 hgrlt).trans q6;have d2:=((bcell hb2).1 sq (m*2+1) hsqlt).trans cs1;clear q6 cs0 cs1;go_wp2_with fail;go_ret;refine⟨pl,pls,rfl,HT1.out.trans (Tch.of_below hb2 (fun _=>False)) fun _ _ h=>h.elim,HLIN.out.tch (Tch.of_below hb2 (fun _=>False)) (fun k hk=>hk.elim) (fun k hk=>hk.elim),?_⟩;rw[HGOAL.out,HPR.out,hshm.out];dsimp only;rw[if_pos HES.out];exact⟨HRK.out.below hb2,fun a s' he=>by injection he with he _;exact he.symm⟩
     ·rw[show eqB psz sizes=false from decide_eq_false hes]at heq
      have HES:=Hd hes;clear hes;go_wp2_with fail;refine hok.mono ?_;rintro e w2 ⟨rfl,rfl⟩;clear hok;go_wp2_with fail;refine heq.mono ?_;rintro e w2 ⟨rfl,hb2⟩;clear heq;have hwr:=wrong_un (a:=()) (HRK.out.below hb2) 4 xx (by decide);clear q6 cs0 cs1;go_wp2_with fail;refine hwr.mono ?_;rintro e w3 ⟨⟨v2,rfl⟩,hrd,ht2⟩;clear hwr;go_wp2_with fail;go_ret;refine⟨.slice none 0 0,[],rfl,(HT1.out.trans (Tch.of_below hb2 (fun _=>False)) fun _ _ h=>h.elim).trans (ht2.mono (S':=fun k=>k=gr∨k=gs) fun k _ h=>Or.inl h) fun _ _ h=>h,LinesOwn.nil _ _,?_⟩;rw[HGOAL.out,HPR.out,hshm.out];dsimp only;rw[if_neg HES.out];exact⟨hrd,fun a s' he=>by cases he⟩
   ·have hnegI:decide (n<0)=false:=decide_eq_false hneg
    obtain⟨k,rfl⟩:∃k:Nat,n=(k:Int):=⟨n.toNat,by omega⟩;have htt:s1.told=s.told:=p4;have ht0':0≤s1.told:=by omega
    have ht1':s1.told≤1000000:=by omega
    have hk2:(k:Int)≤4611686018427387904:=p2;obtain⟨T0,hT0⟩:∃T0,s1.told=T0:=⟨_,rfl⟩;rw[hT0]at q5 ht0' ht1';obtain⟨M,hM⟩:∃M,min (T0+(k:Int)) 4611686018427387904=M:=⟨_,rfl⟩;have hMf:min (s1.told+(k:Int)) far=M:=by rw[hT0];exact hM
    have hw:wrap64 (T0+(k:Int))=T0+(k:Int):=by unfold wrap64;omega
    obtain⟨s2,hs2⟩:∃s2:Ps,s2 = { s1 with told:=min (s1.told+(k:Int)) far }:=⟨_,rfl⟩;obtain⟨s3,hs3⟩:∃s3:Ps,s3=plarge (decide (min (s1.told+(k:Int)) far>16384)) xx s2:=⟨_,rfl⟩
    have HPR:Hid (prest (enOf bs wb) (eeOf wb) sizes ((k:Int),xx) s1=plines (enOf bs wb) (eeOf wb) sizes k [] s3):=by
     unfold prest;rw[if_neg hneg,hs3,hs2,Int.toNat_natCast];rfl
    have HL3:Hid (s3.l.length≤bs.length):=by
     have:=HLEFT.out;rw[Hid,hs3,(plarge_l _ _ _).1,hs2];dsimp only;omega
    have hR2:Rok (w1.setCell ⟨gr,5,none⟩ (.int .i64 (M))) gr gs bs wb s2 sv:=by
     obtain⟨p',big',badAt',bigAt',hrb',hsc',hlf',hbg'⟩:=HRK.out;refine⟨p',big',badAt',bigAt',?_,?_,?_,?_⟩
     ·rw[hs2];dsimp only;rw[hMf];exact hrb'.set_ 5 _
     ·exact hsc'.tch (Tch.put (S:=fun k=>k=gr) (Tch.refl w1 _) (p:=⟨gr,5,none⟩) _ rfl) (fun e=>hne e.symm) fun q cs hq hb=>by subst hq;exact Blk.ne_ hrb' hb (by decide) rfl
     ·rw[hs2];exact hlf'
     ·rw[hs2];exact hbg'
    have hlg:=large_un (r:=(.ok () s2:Res Unit)) (RS.ok hR2) hne (decide (16384<M)) xx
    have HS3:Hid (((.ok () s2:Res Unit).bind fun a s => .ok a (plarge (decide (16384<M)) xx s)) = .ok () s3):=by
     rw[hs3,hMf];rfl
    clear q6 hs2 hs3 hR2 p1 p2 p3 p4 p5 p6 hMf hT0 htt;go_wp2_with fail;refine hok.mono ?_;rintro e w2 ⟨rfl,rfl⟩;clear hok;go_wp2_with fail;refine hlg.mono ?_;rintro e w3 ⟨⟨v3,rfl⟩,hrs3,ht3⟩;rw[HS3.out]at hrs3;have HR3:Hid (Rok w3 gr gs bs wb s3 sv):=hrs3;have HT3:=Hd ((HT1.out.trans (Tch.put (S:=fun k=>k=gr∨k=gs) (Tch.refl w1 _) (p:=⟨gr,5,none⟩) (.int .i64 M) (.inl rfl)) fun _ _ h=>h).trans (ht3.mono (S':=fun k=>k=gr∨k=gs) fun k _ h=>Or.inl h) fun _ _ h=>h);clear hlg hrs3 ht3 q5 f5;go_wp2_with fail;obtain⟨b,hb⟩:∃b,b=w3.heap.size:=⟨_,rfl⟩;rw[← hb]
    have hst:Lns w (w3.alloc (.map #[] 0)) gr gs bs wb sizes k s3 sv b (.slice none 0 0) 0 [] (.map []):=by
     have hsz:=HT3.out.size;refine⟨LRow.nil _ _,by rw[hb];exact World.ownsMap_made _ _ _ _,by omega,HT3.out.trans (Tch.of_below (bone w3 _) (fun _=>False)) fun _ _ h=>h.elim,rfl,Nat.zero_le _,?_,fun out s' ho=>?_⟩
     ·exact HR3.out.below (bone w3 _)
     ·injection ho with ho _;subst ho;exact⟨rfl,sn_empty⟩
    clear hb
    go_loopw [8,9,10,11,13,14,15,16,17,95] (fun ov iv _ _ _ _ _ _ _ _ wr => ∃ (i:Nat) (L:List LT) (D:DataW Unit),iv = .int .i64 i∧Lns w wr gr gs bs wb sizes k s3 sv b ov i L D) (fun _ iv _ _ _ _ _ _ _ _ _=>k-(intOf iv).toNat)
    case atStart=>exact⟨0,[],.map [],rfl,hst⟩
    case round =>
     clear hst;obtain⟨i,L,D,rfl,hlr,hmap,hwb,ht,hli,hik,hrs,hout⟩:=hrel;obtain⟨⟨AO,cO,rfl⟩,hlo,hlp⟩:=hlr;by_cases hlt:i<k
     ·have hltI:decide ((i:Int)<(k:Int))=true:=decide_eq_true (by omega)
      cases hpl:plines (enOf bs wb) (eeOf wb) sizes i [] s3 with
      | bad er at_ =>
        rw[hpl]at hrs;have HRS:=Hd hrs;have hok:=ok_un hrs;have HPL:=Hd (plines_bad sizes hpl k hik);have HLR:Hid (LinesOwn wr 0 (.slice AO L.length cO) (L.map (·.2))):=⟨L,rfl,LRow.down ⟨⟨_,_,rfl⟩,hlo,hlp⟩ (Nat.zero_le _)⟩;have HT:=Hd ht;clear hrs hout hpl ht hmap hlo hlp hli;go_wp2_with fail;refine hok.mono ?_;rintro e w4 ⟨rfl,rfl⟩;clear hok;have hg:(Res.bad er at_:Res (List (List Int × Int))).good=false:=rfl;rw[hg];go_wp2_with fail;go_ret;refine⟨.slice AO L.length cO,L.map (·.2),rfl,HT.out,HLR.out,?_⟩;rw[HGOAL.out,HPR.out,HPL.out]
        exact⟨HRS.out,fun a s' he=>by cases he⟩
      | ok out s4 =>
        obtain⟨l1,l2,l3,l4⟩:=plines_ok i hpl;have HL4:Hid (s4.l.length+i≤bs.length):=by have:=HL3.out;rw[Hid];omega
        have hib:i≤1000000:=by have:=HL4.out;omega
        obtain⟨hLo,hSn⟩:=hout out s4 hpl;rw[hpl]at hrs;have hok:=ok_un hrs;rw[show (Res.ok out s4:Res (List (List Int × Int))).good=true from rfl]at hok;have HRS4:Hid (Rok wr gr gs bs wb s4 sv):=hrs;have HT:=Hd ht;have HMAP:=Hd hmap;have HLO:=Hd hlo;have HLP:=Hd hlp;have HLI:=Hd hli;have HLOUT:=Hd hLo;have HSN:=Hd hSn;have HPL:=Hd hpl;have HBB:=Hd hwb;have hLb:L.length≤1000000:=by omega
        clear hrs hout ht hmap hlo hlp hli hLo hSn hpl l1 l2 l3 l4 hwb;go_wp2_with fail;refine hok.mono ?_;rintro e w4 ⟨rfl,rfl⟩;clear hok;go_wp2_with fail;obtain⟨wo,hwo⟩:∃wo:World,wo=wr:=⟨_,rfl⟩;rw[← hwo]at HRS4 HT HMAP HLO HLP ⊢
        have hin:Tpl wo (wo.alloc (.cells #[.slice none 0 0,.int .i64 0] 236)) gr gs bs wb sizes s4 sv wo.heap.size (strV []) 0 [] none 0 :=
         ⟨rfl,rfl,by simp,Blk.new _ _ _,World.ownsRow_nil _ _ _ _,(RS.below (r:=(.ok ([]:List Int) s4:Res (List Int))) HRS4.out (bone wo _)),fun t' s' he=>by injection he with he _;exact he.symm,Tch.of_below (bone wo _) _,by simp⟩
        have HSZ:Hid (gr<wo.heap.size∧gs<wo.heap.size):=by have:=HT.out.size;exact⟨by omega,by omega⟩
        clear hwo
        go_loopw [11,13,14,15,95] (fun kv _ _ _ jv wc => ∃ (j:Nat) (t:List Int) (At:Option Addr) (ct:Nat),jv = .int .i64 j∧j≤sizes.length∧Tpl wo wc gr gs bs wb sizes s4 sv wo.heap.size kv j t At ct) (fun _ _ _ _ jv _=>sizes.length-(intOf jv).toNat)
        case atStart=>exact⟨0,[],none,0,rfl,Nat.zero_le _,hin⟩
        case round =>
         clear hin;obtain⟨j,tt,At,ct,rfl,hj,rfl,htl,htb,hxb,hto,hrs,htq,htc,hxl⟩:=hrel;obtain⟨xb,hxbe⟩:∃xb,wo.heap.size=xb:=⟨_,rfl⟩;rw[hxbe]at hxb hto hxl ⊢;have HSZ2:=HSZ.out;rw[hxbe]at HSZ2;have HXBE:=Hd hxbe;have hG1x:gr≠xb:=by omega
         have hG2x:gs≠xb:=by omega
         have hxn:∀k,(k=gr∨k=gs)→k≠xb:=fun k hk=>by omega
         have HXN:=Hd hxn;have HTT:=Hd htb;have htlb:tt.length≤1000000:=by omega
         clear hxbe HSZ2 hxn htb;by_cases hltj:j<sizes.length
         ·obtain⟨ad,y,rfl,_,hy,hc⟩:=(Reads.of_own (own_off HSR.out (HT.out.trans htc fun _ _ h=>h) O64.out)).num hltj
          obtain⟨hy1,hy2⟩:=hs1 y (List.mem_of_getElem? hy);have hnum:=rnum_un hrs hne hn 0 (y-1);have HY:=Hd hy;have HTC:=Hd htc;have HTQ:=Hd htq;have HTL:=Hd htl;have HXB:=Hd hxb;have HTO:=Hd hto;have HXL:=Hd hxl;clear hy htc htq htl hxb hto hxl hrs;go_wp2_with fail;refine hnum.mono ?_;rintro e w5 ⟨v,xv,rfl,ht5,hrs5,hv5,hz5⟩;clear hnum;obtain⟨hv1,hv2⟩:=NumU.range hv5 hz5 (by omega) (by omega);have hxb5:=ht5.blk HXB.out (fun h=>HXN.out _ h rfl);have hto5:=own_off HTO.out ht5 (off_below fun k hk=>by have:=HSZ.out;have:=HXBE.out;omega);obtain⟨d0,d1⟩:=hxb5.two;have HT5:=Hd (HTC.out.trans ht5 fun _ _ h=>h);have HRS5:=Hd hrs5;have HV5:=Hd hv5;have HXB5:=Hd hxb5;have hx5l:xb+1≤w5.heap.size:=by have:=ht5.size;have:=HXL.out;omega
          have hA6:=hto5.alloc (.cells #[.int .i64 v] 2);have hr6:Reads (w5.alloc (.cells #[.int .i64 v] 2)) (w5.alloc (.cells #[.int .i64 v] 2)).heap.size 1 (some ⟨w5.heap.size,0,none⟩) 1 (nums [v]):=reads_block (t:=2) (heap_alloc_new _ _) rfl;have hs6:xb+1≤(w5.alloc (.cells #[.int .i64 v] 2)).heap.size:=by simp;omega
          clear ht5 hto5 hrs5 hv5 hz5 hxb5
          go_wp2_with (first
           |(at_builtin;refine wpList_append_any _ rfl (.tmp 107) (.tmp 109) _ rfl (xb+1) 2 i6 _ 1 8 Tryz.underlying46 h60 h61 h62 h63 rfl (by omega) (.slice At tt.length ct) tt.length _ rfl hA6 (w5.alloc (.cells #[.int .i64 v] 2)).heap.size (some ⟨w5.heap.size,0,none⟩) 1 1 (nums [v]) rfl hr6 nums_one (by simp only[maxLen];omega) (by omega) hs6 ?_;intro v6 w6 hown6 hg6 hat6;clear hat6;obtain⟨A6,c6,rfl⟩:=own_shape hown6;have hx6:=(HXB5.out.alloc (.cells #[.int .i64 v] 2)).grown hg6 (fun e=>by have:=(own_in hA6 e.symm).1;omega);obtain⟨d60,d61⟩:=hx6.two;have d6f:=hx6.frozen 0;have HA6:=Hd hA6;have HX6:=Hd hx6;have HO6:=Hd hown6;have HG6:Hid ((w5.alloc (.cells #[.int .i64 v] 2)).grownBy w6 (Value.slice At tt.length ct).ownBlock):=hg6;clear hown6 hg6 hA6 hr6 hx6)
           |fail)
          have T6:Tch (w5.alloc (.cells #[.int .i64 v] 2)) w6 (fun k=>some k=(Value.slice At tt.length ct).ownBlock):=Tch.of_grown HG6.out fun q _ hq=>hq
          have hqb:∀k,some k=(Value.slice At tt.length ct).ownBlock→xb+1≤k:=fun k hk=>(own_in HA6.out hk.symm).1
          have T7:Tch w6 (w6.setCell ⟨xb,0,none⟩ (.slice A6 (tt.length+1) c6)) (fun k=>k=xb):=Tch.put (S:=fun k=>k=xb) (Tch.refl w6 _) (p:=⟨xb,0,none⟩) _ rfl;have hx7:Blk (w6.setCell ⟨xb,0,none⟩ (.slice A6 (tt.length+1) c6)) xb 236 #[.slice A6 (tt.length+1) c6,.int .i64 0]:=HX6.out.set_ 0 _;have ho7:=own_off HO6.out T7 (off_below fun k hk=>by omega);have rs7:=((HRS5.out.below (bone w5 (.cells #[.int .i64 v] 2))).grown HA6.out HG6.out (by decide) (by have:=HSZ.out;have:=HXBE.out;omega) (by have:=HSZ.out;have:=HXBE.out;omega)).tch T7 hG1x hG2x (fun k cs hk hb=>by subst hk;exact Blk.ne_ HX6.out hb (by decide) rfl)
          have ht7:Tch wo (w6.setCell ⟨xb,0,none⟩ (.slice A6 (tt.length+1) c6)) (fun k=>k=gr∨k=gs) :=
           ((HT5.out.trans (Tch.of_below (bone w5 _) (fun _=>False)) fun _ _ h=>h.elim).trans T6 fun k hk hb=>by have:=hqb k hb;have:=HXBE.out;omega).trans T7 fun k hk hb=>by have:=HXBE.out;omega
          obtain⟨w7,hw7⟩:∃w7,w6.setCell ⟨xb,0,none⟩ (.slice A6 (tt.length+1) c6)=w7:=⟨_,rfl⟩;rw[hw7]at hx7 ho7 rs7 ht7 ⊢;have hwr:=write_any v w7 (by omega) (by omega) (tab_tch HTAB.out (HT.out.trans ht7 fun _ _ h=>h) (by omega));have HX7:=Hd hx7;have HO7:=Hd ho7;have HRS7:=Hd rs7;have HT7:=Hd ht7;obtain⟨q,hq⟩:∃q,Lib.itoa v=q:=⟨_,rfl⟩;have hql:q.length≤21:=by rw[← hq];exact itoa_len v (by omega) (by omega)
          obtain⟨kb,hkb⟩:∃kb,keyB tt=kb:=⟨_,rfl⟩;have hkl:kb.length≤22*tt.length:=by rw[← hkb];exact keyB_len tt fun z hz=>itoa_len z (by have:=HTT.out z hz;omega) (by have:=HTT.out z hz;omega)
          rw[hq]at hwr
          have hsum1:∀W:World,(Op.stringOp .add ⟨q.toArray⟩ ⟨#[32]⟩).run Tryz.prog W = .ok (strV (q ++ [32])) W:=fun W=>by
           rw[run_string_add_sum W _ _ (by simp[ByteArray.size];omega)];rfl
          have hsum2:∀W:World,(Op.stringOp .add ⟨kb.toArray⟩ ⟨(q ++ [32]).toArray⟩).run Tryz.prog W = .ok (strV (kb++(q ++ [32]))) W:=fun W=>by
           rw[run_string_add_sum W _ _ (by simp[ByteArray.size];omega),ByteArray.mk_append_mk]
          have HKB:Hid (kb++(q ++ [32])=keyB (tt ++ [v])):=by rw[Hid,keyB_snoc,hkb,hq]
          have hkv:strV (keyB tt)=strV kb:=by rw[hkb]
          rw[hkb];clear hw7 T6 T7 hqb hx7 ho7 rs7 ht7 d60 d61 d6f hq hkb hql hkl hkv d0 d1 hc;refine hwr.mono ?_;rintro e w8 ⟨rfl,hb8⟩;clear hwr;go_wp2_with fail;go_roundw
          case measure=>simp[intOf];omega
          case rel =>
           have hl:(tt ++ [v]).length=tt.length+1:=by simp
           refine⟨j+1,tt ++ [v],A6,c6,by go_num,by omega,by rw[HKB.out],by rw[hl,HTL.out],fun z hz=>?_,?_,?_,?_,fun t' s' he=>?_,?_,?_⟩
           ·rcases List.mem_append.1 hz with hz | hz
            ·exact HTT.out z hz
            ·rw[List.mem_singleton.1 hz];omega
           ·rw[hl];exact Blk.under HX7.out hb8
           ·rw[hl,show nums (tt ++ [v])=nums tt++nums [v] by simp[nums]];exact own_under HO7.out hb8
           ·rw[tup_next HY.out];exact (HRS7.out.below hb8).next
           ·rw[tup_next HY.out]at he
            cases hpt:ptup (enOf bs wb) (eeOf wb) (sizes.take j) [] s4 with
            |bad e1 x1=>rw[hpt]at he;cases he
            | ok t1 s1' =>
              rw[hpt,Res.bind_ok]at he
              cases hpn:pnum (enOf bs wb) (eeOf wb) 0 (y-1) s1' with
              |bad e1 x1=>rw[hpn]at he;cases he
              | ok v1 s2' =>
                rw[hpn,Res.bind_ok]at he;injection he with he _
                have h1:=HTQ.out t1 s1' hpt;have h2:=(HV5.out v1 s2' (by rw[hpt,Res.bind_ok];exact hpn)).1;rw[← he,h1,h2]
           ·exact HT7.out.trans (Tch.of_below hb8 (fun _=>False)) fun _ _ h=>h.elim
           ·have h1:=HX7.out.lt;have h2:=hb8.size;have:=HXBE.out;omega
         ·obtain rfl:j=sizes.length:=by omega
          rw[List.take_of_length_le (Nat.le_refl _)]at hrs htq;have hnum:=rnum_un hrs hne hn 0 4611686018427387904;have HTC:=Hd htc;have HTQ:=Hd htq;have HTL:=Hd htl;have HXB:=Hd hxb;have HTO:=Hd hto;have HXL:=Hd hxl;clear htc htq htl hxb hto hxl hrs;go_wp2_with fail;refine hnum.mono ?_;rintro e w5 ⟨c,xc,rfl,ht5,hrs5,hv5,hz5⟩;clear hnum;obtain⟨hv1,hv2⟩:=NumU.range hv5 hz5 (by omega) (by omega);have hxb5:=ht5.blk HXB.out (fun h=>HXN.out _ h rfl);have hto5:=own_off HTO.out ht5 (off_below fun k hk=>by have:=HSZ.out;have:=HXBE.out;omega);obtain⟨d0,d1⟩:=hxb5.two;have d1f:=hxb5.frozen 1;have HT5:=Hd (HTC.out.trans ht5 fun _ _ h=>h);have HRS5:=Hd hrs5;have HV5:=Hd hv5;have HXB5:=Hd hxb5;have HTO5:=Hd hto5;clear ht5 hto5 hrs5 hv5 hz5 hxb5;go_wp2_with fail;have T7:Tch w5 (w5.setCell ⟨xb,1,none⟩ (.int .i64 c)) (fun k=>k=xb):=Tch.put (S:=fun k=>k=xb) (Tch.refl w5 _) (p:=⟨xb,1,none⟩) _ rfl;have hxz:Blk (w5.setCell ⟨xb,1,none⟩ (.int .i64 c)) xb 236 #[.slice At tt.length ct,.int .i64 c]:=HXB5.out.set_ 1 _;have hto7:=own_off HTO5.out T7 (off_below fun k hk=>by omega);have rs7:=HRS5.out.tch T7 hG1x hG2x (fun k cs hk hb=>by subst hk;exact Blk.ne_ HXB5.out hb (by decide) rfl);have ht7:Tch wo (w5.setCell ⟨xb,1,none⟩ (.int .i64 c)) (fun k=>k=gr∨k=gs):=HT5.out.trans T7 fun k hk hb=>by have:=HXBE.out;omega
          obtain⟨wz,hwz⟩:∃wz,w5.setCell ⟨xb,1,none⟩ (.int .i64 c)=wz:=⟨_,rfl⟩;rw[hwz]at hxz hto7 rs7 ht7 ⊢;have hlz:LRow wz w.heap.size (.slice AO L.length cO) L:=LRow.tch ⟨⟨_,_,rfl⟩,HLO.out,HLP.out⟩ ht7 (off_below fun k hk=>by omega) (off_below fun k hk=>by omega);have hmz:=map_tch HMAP.out ht7 (fun hk=>by have:=HBB.out;omega);have TZ:=Hd (HT.out.trans ht7 fun _ _ h=>h);have hrowz:Row64 wz w.heap.size (.slice At tt.length ct) tt:=⟨⟨_,_,rfl⟩,own_base hto7 (by have:=HXBE.out;have:=HT.out.size;omega)⟩;have hok:=ok_un rs7
          have hkey:keyOf Tryz.prog 9 (.string ⟨(keyB tt).toArray⟩)=some (.string (keyB tt)):=WideMaps.keyOf_string_mk Tryz.underlying9 (by
           have:(keyB tt).length≤22*tt.length:=keyB_len tt fun z hz=>itoa_len z (by have:=HTT.out z hz;omega) (by have:=HTT.out z hz;omega)
           simp only[ByteArray.size,maxLen];simp;omega)
          have hps:=plines_snoc (en:=enOf bs wb) (ee:=eeOf wb) sizes i [] s3;rw[HPL.out,Res.bind_ok]at hps;clear hwz T7 d0 d1 d1f hto7 hv1 hv2;rcases pline_cases (en:=enOf bs wb) (ee:=eeOf wb) (out:=out) HTQ.out HV5.out with⟨er,x0,hB,hP⟩ | ⟨s6,hB,hP⟩
          ·rw[show (pnum (enOf bs wb) (eeOf wb) 0 4611686018427387904:Ps→_)=pnum (enOf bs wb) (eeOf wb) 0 far from rfl,hB]at rs7 hok
           rw[hP]at hps;have hrz:RS wz gr gs bs wb sv (plines (enOf bs wb) (eeOf wb) sizes (i+1) [] s3):=by rw[hps];exact rs7
           have hnew:∀out' s',plines (enOf bs wb) (eeOf wb) sizes (i+1) [] s3 = .ok out' s'→L.map (·.2) ++ [(tt,c)]=out'∧tt∉L.map (·.2.1)∧Sn D (L.map (·.2.1)):=fun out' s' he=>by rw[hps]at he;cases he
           clear hB hP hps rs7 ht7;rw[show (Res.bad er x0:Res (Int × Int)).good=false from rfl]at hok;refine hok.mono ?_;rintro e w6 ⟨rfl,rfl⟩;clear hok;have hD1:=hmz.isMap;have HNEW:=Hd hnew;have HKEY:=hkey;clear hnew;obtain⟨hbz0,hbz1⟩:=hxz.two;obtain⟨-,hoz,hpz⟩:=hlz;obtain⟨-,hrow2⟩:=hrowz
           have hone:∀u ∈ [Value.slice At tt.length ct,.int .i64 c],u.oneCell'=true:=fun u hu=>by
            rcases List.mem_cons.1 hu with rfl | hu
            ·rfl
            ·rw[List.mem_singleton.1 hu];rfl
           have HPZ:=Hd hpz;have HOZ:=Hd hoz;have HRSZ:=Hd hrz;have HROwz:=Hd hrow2;have HXZ:=Hd hxz;have HONE:=Hd hone
           have hbne:Hid (∀cs t,¬ Blk wz b t cs):=fun cs t hb=>by
            obtain⟨es,clock,hh,_⟩:=hmz;unfold Blk at hb;rw[hb]at hh;cases hh
           clear hpz hoz hrz hrow2 hxz hone
           go_wp2_with (first
            |(at_lookup;refine wpList_lookup_own_int _ rfl _ _ 271 rfl 9 3 .i64 (string_keyed Tryz.underlying9) Tryz.underlying271 Tryz.underlying3 (zeroI _) b i D rfl hmz _ (.string (keyB tt)) rfl hkey ?_;intro c1 hat1 hwc1;have HAT:=Hd hat1;clear hat1 hwc1)
            |(at_mapUpdate;refine wpList_mapUpdate_own _ rfl _ _ _ 271 rfl 9 3 (string_keyed Tryz.underlying9) Tryz.underlying271 _ b i D rfl hmz (by simp only[maxLen];omega) _ _ (.string (keyB tt)) rfl rfl hkey _ [] (plainElem_int Tryz.underlying3 (wrap64_wf _)) ?_;intro w5 hm5 hg5;have HM5:=Hd hm5;have HG5:=Hd hg5;have hx5:=HXZ.out.grown hg5 (fun e=>by have h0:=HXZ.out;rw[Option.some.inj e]at h0;exact hbne.out _ _ h0);obtain⟨c50,c51⟩:=hx5.two;have HO5:=Hd (own_off HOZ.out (Tch.of_grown hg5 (S:=fun k=>k=b) fun q _ hq=>Option.some.inj hq) (fun k hk => .inr fun cs hb=>hbne.out cs _ (by rw[← hk];exact hb)));have hA5:=HO5.out.alloc (.cells #[.slice At tt.length ct,.int .i64 c] 236);have hr5:Reads (w5.alloc (.cells #[.slice At tt.length ct,.int .i64 c] 236)) (w5.alloc (.cells #[.slice At tt.length ct,.int .i64 c] 236)).heap.size 2 (some ⟨w5.heap.size,0,none⟩) 1 [.slice At tt.length ct,.int .i64 c]:=reads_two (heap_alloc_new _ _);have hs5:w.heap.size≤(w5.alloc (.cells #[.slice At tt.length ct,.int .i64 c] 236)).heap.size:=(by have h1:=hg5.size;have h2:=TZ.out.size;simp;omega);clear hm5 hg5)
            |(at_builtin;refine wpList_append_any _ rfl (.tmp 140) (.tmp 142) _ rfl w.heap.size 236 iL _ 2 32 Tryz.underlying153 hL0 hL1 hL2 hL3 rfl (by omega) (.slice AO L.length cO) L.length _ rfl hA5 (w5.alloc (.cells #[.slice At tt.length ct,.int .i64 c] 236)).heap.size (some ⟨w5.heap.size,0,none⟩) 1 1 [.slice At tt.length ct,.int .i64 c] rfl hr5 HONE.out (by simp only[maxLen];omega) (by omega) hs5 ?_;intro v6 w6 hown6 hg6 hat6;clear hat6;have HO6:=Hd hown6;have HG6:Hid ((w5.alloc (.cells #[.slice At tt.length ct,.int .i64 c] 236)).grownBy w6 (Value.slice AO L.length cO).ownBlock):=hg6;clear hown6 hg6 hA5 hr5)
            |fail)
           go_roundw
           case measure=>simp[intOf];omega
           case rel =>
            have hA5:=HO5.out.alloc (.cells #[.slice At tt.length ct,.int .i64 c] 236);have T5:Tch wz (w5.alloc (.cells #[.slice At tt.length ct,.int .i64 c] 236)) (fun k=>k=b):=(Tch.of_grown HG5.out (S:=fun k=>k=b) fun q _ hq=>Option.some.inj hq).trans (Tch.of_below (bone w5 _) (fun _=>False)) fun _ _ h=>h.elim
            have T6:Tch (w5.alloc (.cells #[.slice At tt.length ct,.int .i64 c] 236)) w6 (fun k=>some k=(Value.slice AO L.length cO).ownBlock):=Tch.of_grown HG6.out fun q _ hq=>hq
            have hbO:∀k,some k=(Value.slice AO L.length cO).ownBlock→w.heap.size≤k∧k<wz.heap.size:=fun k hk=>own_in HOZ.out hk.symm
            have rs5:RS (w5.alloc (.cells #[.slice At tt.length ct,.int .i64 c] 236)) gr gs bs wb sv (plines (enOf bs wb) (eeOf wb) sizes (i+1) [] s3):=HRSZ.out.tch T5 (fun e=>by have:=HBB.out;omega) (fun e=>by have:=HBB.out;omega) fun k cs hk hb=>hbne.out cs _ (by rw[← hk];exact hb)
            have rs6:=rs5.grown hA5 HG6.out (by decide) hgr hgs
            have rows:∀p∈L ++ [(Value.slice At tt.length ct,tt,c)],Row64 w6 w.heap.size p.1 p.2.1:=fun p hp=>by
             have h0:Row64 wz w.heap.size p.1 p.2.1:=by
              rcases List.mem_append.1 hp with hp | hp
              ·exact HPZ.out p hp
              ·rw[List.mem_singleton.1 hp];exact⟨⟨_,_,rfl⟩,HROwz.out⟩
             exact (h0.tch T5 (fun k hk => .inr fun cs hb=>hbne.out cs _ (by rw[← hk];exact hb))).tch T6 (off_own hA5 (by decide))
            have hlen:(L ++ [(Value.slice At tt.length ct,tt,c)]).length=L.length+1:=by simp
            have hw6:w6.ownsRow w.heap.size 236 2 v6 (L ++ [(Value.slice At tt.length ct,tt,c)]).length (lcells (L ++ [(Value.slice At tt.length ct,tt,c)])):=by rw[hlen,lc_snoc];exact HO6.out
            obtain⟨A6,c6,hv6⟩:=own_shape hw6
            have hm6:=(HM5.out.alloc (.cells #[.slice At tt.length ct,.int .i64 c] 236)).kept HG6.out (fun e=>by
             obtain⟨cs,hb⟩:=own_is HOZ.out e.symm
             exact hbne.out _ _ hb)
            refine⟨i+1,L ++ [(Value.slice At tt.length ct,tt,c)],_,by go_num,⟨⟨A6,c6,hv6⟩,hw6,rows⟩,hm6,HBB.out,(TZ.out.trans T5 (fun k hk hb=>by have:=HBB.out;omega)).trans T6 (fun k hk hb=>by have:=(hbO k hb.symm.symm).1;omega),by rw[hlen,HLI.out],by omega,rs6,fun out s' hout=>?_⟩;obtain⟨e1,e2,e3⟩:=HNEW.out out s' hout;refine⟨by rw[List.map_append];exact e1,?_⟩
            have hc0:c1=0:=by
             have:=HAT.out;rw[e3 tt HTT.out,if_neg e2]at this;injection this with this
             injection this with _ this
             exact this.symm
            subst hc0;rw[List.map_append];rw[show wrap64 (0+1)=1 from by unfold wrap64;omega];exact sn_put e3 hD1 HTT.out
          ·rw[show (pnum (enOf bs wb) (eeOf wb) 0 4611686018427387904:Ps→_)=pnum (enOf bs wb) (eeOf wb) 0 far from rfl,hB]at rs7 hok
           rw[show (Res.ok (c,xc) s6:Res (Int × Int)).good=true from rfl]at hok;have hof:out.map Prod.fst=L.map (·.2.1):=by rw[← HLOUT.out,List.map_map];rfl
           rw[hof]at hP;have hat0:=HSN.out tt HTT.out;by_cases hin:tt∈L.map (·.2.1)
           ·rw[if_pos hin]at hP hat0
            rw[hP]at hps;have hwr:=wrong_un (a:=()) (show Rok wz gr gs bs wb s6 sv from rs7) 4 xc (by decide);have HPS:=Hd hps;have HAT0:=Hd hat0;have HHT7:=Hd ht7;have HHLZ:=Hd hlz;have HROW:=Hd hrowz;have HHXZ:=Hd hxz;have HTT2:=Hd TZ.out;clear hB hP hps rs7 hat0 hin hof ht7 hlz hrowz hxz TZ;refine hok.mono ?_;rintro e w6 ⟨rfl,rfl⟩;clear hok;obtain⟨c0,hrun,hat1,_⟩:=hmz.lookup_int (string_keyed Tryz.underlying9) Tryz.underlying271 Tryz.underlying3 (zeroI _) hkey;obtain rfl:c0=1:=(by rw[HAT0.out]at hat1;injection hat1 with h1;injection h1 with _ h1;exact h1.symm);clear hat1;go_wp2_with fail;clear hrun;refine hwr.mono ?_;rintro e w7 ⟨⟨v7,rfl⟩,hrd,ht8⟩;clear hwr;have hmz:=map_tch hmz ht8 (fun hk=>by have:=HBB.out;omega);have hlz:=HHLZ.out.tch ht8 (off_below fun k hk=>by omega) (off_below fun k hk=>by omega);have hrowz:=HROW.out.tch ht8 (off_below fun k hk=>by omega);have hxz:=ht8.blk HHXZ.out (fun e=>hG1x e.symm);have TZ:=Hd (HTT2.out.trans (ht8.mono (S':=fun k=>k=gr∨k=gs) fun k _ h=>Or.inl h) fun _ _ h=>h);have hrz:RS w7 gr gs bs wb sv (plines (enOf bs wb) (eeOf wb) sizes (i+1) [] s3):=by rw[HPS.out];exact hrd
            have hnew:∀out' s',plines (enOf bs wb) (eeOf wb) sizes (i+1) [] s3 = .ok out' s'→L.map (·.2) ++ [(tt,c)]=out'∧tt∉L.map (·.2.1)∧Sn D (L.map (·.2.1)):=fun out' s' he=>by rw[HPS.out]at he;cases he
            clear ht8 hrd;have hD1:=hmz.isMap;have HNEW:=Hd hnew;have HKEY:=hkey;clear hnew;obtain⟨hbz0,hbz1⟩:=hxz.two;obtain⟨-,hoz,hpz⟩:=hlz;obtain⟨-,hrow2⟩:=hrowz
            have hone:∀u ∈ [Value.slice At tt.length ct,.int .i64 c],u.oneCell'=true:=fun u hu=>by
             rcases List.mem_cons.1 hu with rfl | hu
             ·rfl
             ·rw[List.mem_singleton.1 hu];rfl
            have HPZ:=Hd hpz;have HOZ:=Hd hoz;have HRSZ:=Hd hrz;have HROw7:=Hd hrow2;have HXZ:=Hd hxz;have HONE:=Hd hone
            have hbne:Hid (∀cs t,¬ Blk w7 b t cs):=fun cs t hb=>by
             obtain⟨es,clock,hh,_⟩:=hmz;unfold Blk at hb;rw[hb]at hh;cases hh
            clear hpz hoz hrz hrow2 hxz hone
            go_wp2_with (first
             |(at_lookup;refine wpList_lookup_own_int _ rfl _ _ 271 rfl 9 3 .i64 (string_keyed Tryz.underlying9) Tryz.underlying271 Tryz.underlying3 (zeroI _) b i D rfl hmz _ (.string (keyB tt)) rfl hkey ?_;intro c1 hat1 hwc1;have HAT:=Hd hat1;clear hat1 hwc1)
             |(at_mapUpdate;refine wpList_mapUpdate_own _ rfl _ _ _ 271 rfl 9 3 (string_keyed Tryz.underlying9) Tryz.underlying271 _ b i D rfl hmz (by simp only[maxLen];omega) _ _ (.string (keyB tt)) rfl rfl hkey _ [] (plainElem_int Tryz.underlying3 (wrap64_wf _)) ?_;intro w5 hm5 hg5;have HM5:=Hd hm5;have HG5:=Hd hg5;have hx5:=HXZ.out.grown hg5 (fun e=>by have h0:=HXZ.out;rw[Option.some.inj e]at h0;exact hbne.out _ _ h0);obtain⟨c50,c51⟩:=hx5.two;have HO5:=Hd (own_off HOZ.out (Tch.of_grown hg5 (S:=fun k=>k=b) fun q _ hq=>Option.some.inj hq) (fun k hk => .inr fun cs hb=>hbne.out cs _ (by rw[← hk];exact hb)));have hA5:=HO5.out.alloc (.cells #[.slice At tt.length ct,.int .i64 c] 236);have hr5:Reads (w5.alloc (.cells #[.slice At tt.length ct,.int .i64 c] 236)) (w5.alloc (.cells #[.slice At tt.length ct,.int .i64 c] 236)).heap.size 2 (some ⟨w5.heap.size,0,none⟩) 1 [.slice At tt.length ct,.int .i64 c]:=reads_two (heap_alloc_new _ _);have hs5:w.heap.size≤(w5.alloc (.cells #[.slice At tt.length ct,.int .i64 c] 236)).heap.size:=(by have h1:=hg5.size;have h2:=TZ.out.size;simp;omega);clear hm5 hg5)
             |(at_builtin;refine wpList_append_any _ rfl (.tmp 140) (.tmp 142) _ rfl w.heap.size 236 iL _ 2 32 Tryz.underlying153 hL0 hL1 hL2 hL3 rfl (by omega) (.slice AO L.length cO) L.length _ rfl hA5 (w5.alloc (.cells #[.slice At tt.length ct,.int .i64 c] 236)).heap.size (some ⟨w5.heap.size,0,none⟩) 1 1 [.slice At tt.length ct,.int .i64 c] rfl hr5 HONE.out (by simp only[maxLen];omega) (by omega) hs5 ?_;intro v6 w6 hown6 hg6 hat6;clear hat6;have HO6:=Hd hown6;have HG6:Hid ((w5.alloc (.cells #[.slice At tt.length ct,.int .i64 c] 236)).grownBy w6 (Value.slice AO L.length cO).ownBlock):=hg6;clear hown6 hg6 hA5 hr5)
             |fail)
            go_roundw
            case measure=>simp[intOf];omega
            case rel =>
             have hA5:=HO5.out.alloc (.cells #[.slice At tt.length ct,.int .i64 c] 236);have T5:Tch w7 (w5.alloc (.cells #[.slice At tt.length ct,.int .i64 c] 236)) (fun k=>k=b):=(Tch.of_grown HG5.out (S:=fun k=>k=b) fun q _ hq=>Option.some.inj hq).trans (Tch.of_below (bone w5 _) (fun _=>False)) fun _ _ h=>h.elim
             have T6:Tch (w5.alloc (.cells #[.slice At tt.length ct,.int .i64 c] 236)) w6 (fun k=>some k=(Value.slice AO L.length cO).ownBlock):=Tch.of_grown HG6.out fun q _ hq=>hq
             have hbO:∀k,some k=(Value.slice AO L.length cO).ownBlock→w.heap.size≤k∧k<w7.heap.size:=fun k hk=>own_in HOZ.out hk.symm
             have rs5:RS (w5.alloc (.cells #[.slice At tt.length ct,.int .i64 c] 236)) gr gs bs wb sv (plines (enOf bs wb) (eeOf wb) sizes (i+1) [] s3):=HRSZ.out.tch T5 (fun e=>by have:=HBB.out;omega) (fun e=>by have:=HBB.out;omega) fun k cs hk hb=>hbne.out cs _ (by rw[← hk];exact hb)
             have rs6:=rs5.grown hA5 HG6.out (by decide) hgr hgs
             have rows:∀p∈L ++ [(Value.slice At tt.length ct,tt,c)],Row64 w6 w.heap.size p.1 p.2.1:=fun p hp=>by
              have h0:Row64 w7 w.heap.size p.1 p.2.1:=by
               rcases List.mem_append.1 hp with hp | hp
               ·exact HPZ.out p hp
               ·rw[List.mem_singleton.1 hp];exact⟨⟨_,_,rfl⟩,HROw7.out⟩
              exact (h0.tch T5 (fun k hk => .inr fun cs hb=>hbne.out cs _ (by rw[← hk];exact hb))).tch T6 (off_own hA5 (by decide))
             have hlen:(L ++ [(Value.slice At tt.length ct,tt,c)]).length=L.length+1:=by simp
             have hw6:w6.ownsRow w.heap.size 236 2 v6 (L ++ [(Value.slice At tt.length ct,tt,c)]).length (lcells (L ++ [(Value.slice At tt.length ct,tt,c)])):=by rw[hlen,lc_snoc];exact HO6.out
             obtain⟨A6,c6,hv6⟩:=own_shape hw6
             have hm6:=(HM5.out.alloc (.cells #[.slice At tt.length ct,.int .i64 c] 236)).kept HG6.out (fun e=>by
              obtain⟨cs,hb⟩:=own_is HOZ.out e.symm
              exact hbne.out _ _ hb)
             refine⟨i+1,L ++ [(Value.slice At tt.length ct,tt,c)],_,by go_num,⟨⟨A6,c6,hv6⟩,hw6,rows⟩,hm6,HBB.out,(TZ.out.trans T5 (fun k hk hb=>by have:=HBB.out;omega)).trans T6 (fun k hk hb=>by have:=(hbO k hb.symm.symm).1;omega),by rw[hlen,HLI.out],by omega,rs6,fun out s' hout=>?_⟩;obtain⟨e1,e2,e3⟩:=HNEW.out out s' hout;refine⟨by rw[List.map_append];exact e1,?_⟩
             have hc0:c1=0:=by
              have:=HAT.out;rw[e3 tt HTT.out,if_neg e2]at this;injection this with this
              injection this with _ this
              exact this.symm
             subst hc0;rw[List.map_append];rw[show wrap64 (0+1)=1 from by unfold wrap64;omega];exact sn_put e3 hD1 HTT.out
           ·rw[if_neg hin]at hP hat0
            rw[hP]at hps;have hrz:RS wz gr gs bs wb sv (plines (enOf bs wb) (eeOf wb) sizes (i+1) [] s3):=by rw[hps];exact rs7
            have hnew:∀out' s',plines (enOf bs wb) (eeOf wb) sizes (i+1) [] s3 = .ok out' s'→L.map (·.2) ++ [(tt,c)]=out'∧tt∉L.map (·.2.1)∧Sn D (L.map (·.2.1)):=fun out' s' he=>by
             rw[hps]at he;injection he with he _
             exact⟨by rw[← he,HLOUT.out],hin,HSN.out⟩
            have HAT0:=Hd hat0;have HNEW0:=Hd hnew;have HRZ0:=Hd hrz;have HHLZ:=Hd hlz;have HROW:=Hd hrowz;have HHXZ:=Hd hxz;clear hB hP hps rs7 hat0 hin hof ht7 hnew hrz hlz hrowz hxz;refine hok.mono ?_;rintro e w6 ⟨rfl,rfl⟩;clear hok;obtain⟨c0,hrun,hat1,_⟩:=hmz.lookup_int (string_keyed Tryz.underlying9) Tryz.underlying271 Tryz.underlying3 (zeroI _) hkey;obtain rfl:c0=0:=(by rw[HAT0.out]at hat1;injection hat1 with h1;injection h1 with _ h1;exact h1.symm);clear hat1;go_upto_region 27 with fail;clear hrun;have hnew:=HNEW0.out;have hrz:=HRZ0.out;have hlz:=HHLZ.out;have hrowz:=HROW.out;have hxz:=HHXZ.out;have hD1:=hmz.isMap;have HNEW:=Hd hnew;have HKEY:=hkey;clear hnew;obtain⟨hbz0,hbz1⟩:=hxz.two;obtain⟨-,hoz,hpz⟩:=hlz;obtain⟨-,hrow2⟩:=hrowz
            have hone:∀u ∈ [Value.slice At tt.length ct,.int .i64 c],u.oneCell'=true:=fun u hu=>by
             rcases List.mem_cons.1 hu with rfl | hu
             ·rfl
             ·rw[List.mem_singleton.1 hu];rfl
            have HPZ:=Hd hpz;have HOZ:=Hd hoz;have HRSZ:=Hd hrz;have HROwz:=Hd hrow2;have HXZ:=Hd hxz;have HONE:=Hd hone
            have hbne:Hid (∀cs t,¬ Blk wz b t cs):=fun cs t hb=>by
             obtain⟨es,clock,hh,_⟩:=hmz;unfold Blk at hb;rw[hb]at hh;cases hh
            clear hpz hoz hrz hrow2 hxz hone
            go_wp2_with (first
             |(at_lookup;refine wpList_lookup_own_int _ rfl _ _ 271 rfl 9 3 .i64 (string_keyed Tryz.underlying9) Tryz.underlying271 Tryz.underlying3 (zeroI _) b i D rfl hmz _ (.string (keyB tt)) rfl hkey ?_;intro c1 hat1 hwc1;have HAT:=Hd hat1;clear hat1 hwc1)
             |(at_mapUpdate;refine wpList_mapUpdate_own _ rfl _ _ _ 271 rfl 9 3 (string_keyed Tryz.underlying9) Tryz.underlying271 _ b i D rfl hmz (by simp only[maxLen];omega) _ _ (.string (keyB tt)) rfl rfl hkey _ [] (plainElem_int Tryz.underlying3 (wrap64_wf _)) ?_;intro w5 hm5 hg5;have HM5:=Hd hm5;have HG5:=Hd hg5;have hx5:=HXZ.out.grown hg5 (fun e=>by have h0:=HXZ.out;rw[Option.some.inj e]at h0;exact hbne.out _ _ h0);obtain⟨c50,c51⟩:=hx5.two;have HO5:=Hd (own_off HOZ.out (Tch.of_grown hg5 (S:=fun k=>k=b) fun q _ hq=>Option.some.inj hq) (fun k hk => .inr fun cs hb=>hbne.out cs _ (by rw[← hk];exact hb)));have hA5:=HO5.out.alloc (.cells #[.slice At tt.length ct,.int .i64 c] 236);have hr5:Reads (w5.alloc (.cells #[.slice At tt.length ct,.int .i64 c] 236)) (w5.alloc (.cells #[.slice At tt.length ct,.int .i64 c] 236)).heap.size 2 (some ⟨w5.heap.size,0,none⟩) 1 [.slice At tt.length ct,.int .i64 c]:=reads_two (heap_alloc_new _ _);have hs5:w.heap.size≤(w5.alloc (.cells #[.slice At tt.length ct,.int .i64 c] 236)).heap.size:=(by have h1:=hg5.size;have h2:=TZ.out.size;simp;omega);clear hm5 hg5)
             |(at_builtin;refine wpList_append_any _ rfl (.tmp 140) (.tmp 142) _ rfl w.heap.size 236 iL _ 2 32 Tryz.underlying153 hL0 hL1 hL2 hL3 rfl (by omega) (.slice AO L.length cO) L.length _ rfl hA5 (w5.alloc (.cells #[.slice At tt.length ct,.int .i64 c] 236)).heap.size (some ⟨w5.heap.size,0,none⟩) 1 1 [.slice At tt.length ct,.int .i64 c] rfl hr5 HONE.out (by simp only[maxLen];omega) (by omega) hs5 ?_;intro v6 w6 hown6 hg6 hat6;clear hat6;have HO6:=Hd hown6;have HG6:Hid ((w5.alloc (.cells #[.slice At tt.length ct,.int .i64 c] 236)).grownBy w6 (Value.slice AO L.length cO).ownBlock):=hg6;clear hown6 hg6 hA5 hr5)
             |fail)
            go_roundw
            case measure=>simp[intOf];omega
            case rel =>
             have hA5:=HO5.out.alloc (.cells #[.slice At tt.length ct,.int .i64 c] 236);have T5:Tch wz (w5.alloc (.cells #[.slice At tt.length ct,.int .i64 c] 236)) (fun k=>k=b):=(Tch.of_grown HG5.out (S:=fun k=>k=b) fun q _ hq=>Option.some.inj hq).trans (Tch.of_below (bone w5 _) (fun _=>False)) fun _ _ h=>h.elim
             have T6:Tch (w5.alloc (.cells #[.slice At tt.length ct,.int .i64 c] 236)) w6 (fun k=>some k=(Value.slice AO L.length cO).ownBlock):=Tch.of_grown HG6.out fun q _ hq=>hq
             have hbO:∀k,some k=(Value.slice AO L.length cO).ownBlock→w.heap.size≤k∧k<wz.heap.size:=fun k hk=>own_in HOZ.out hk.symm
             have rs5:RS (w5.alloc (.cells #[.slice At tt.length ct,.int .i64 c] 236)) gr gs bs wb sv (plines (enOf bs wb) (eeOf wb) sizes (i+1) [] s3):=HRSZ.out.tch T5 (fun e=>by have:=HBB.out;omega) (fun e=>by have:=HBB.out;omega) fun k cs hk hb=>hbne.out cs _ (by rw[← hk];exact hb)
             have rs6:=rs5.grown hA5 HG6.out (by decide) hgr hgs
             have rows:∀p∈L ++ [(Value.slice At tt.length ct,tt,c)],Row64 w6 w.heap.size p.1 p.2.1:=fun p hp=>by
              have h0:Row64 wz w.heap.size p.1 p.2.1:=by
               rcases List.mem_append.1 hp with hp | hp
               ·exact HPZ.out p hp
               ·rw[List.mem_singleton.1 hp];exact⟨⟨_,_,rfl⟩,HROwz.out⟩
              exact (h0.tch T5 (fun k hk => .inr fun cs hb=>hbne.out cs _ (by rw[← hk];exact hb))).tch T6 (off_own hA5 (by decide))
             have hlen:(L ++ [(Value.slice At tt.length ct,tt,c)]).length=L.length+1:=by simp
             have hw6:w6.ownsRow w.heap.size 236 2 v6 (L ++ [(Value.slice At tt.length ct,tt,c)]).length (lcells (L ++ [(Value.slice At tt.length ct,tt,c)])):=by rw[hlen,lc_snoc];exact HO6.out
             obtain⟨A6,c6,hv6⟩:=own_shape hw6
             have hm6:=(HM5.out.alloc (.cells #[.slice At tt.length ct,.int .i64 c] 236)).kept HG6.out (fun e=>by
              obtain⟨cs,hb⟩:=own_is HOZ.out e.symm
              exact hbne.out _ _ hb)
             refine⟨i+1,L ++ [(Value.slice At tt.length ct,tt,c)],_,by go_num,⟨⟨A6,c6,hv6⟩,hw6,rows⟩,hm6,HBB.out,(TZ.out.trans T5 (fun k hk hb=>by have:=HBB.out;omega)).trans T6 (fun k hk hb=>by have:=(hbO k hb.symm.symm).1;omega),by rw[hlen,HLI.out],by omega,rs6,fun out s' hout=>?_⟩;obtain⟨e1,e2,e3⟩:=HNEW.out out s' hout;refine⟨by rw[List.map_append];exact e1,?_⟩
             have hc0:c1=0:=by
              have:=HAT.out;rw[e3 tt HTT.out,if_neg e2]at this;injection this with this
              injection this with _ this
              exact this.symm
             subst hc0;rw[List.map_append];rw[show wrap64 (0+1)=1 from by unfold wrap64;omega];exact sn_put e3 hD1 HTT.out
     ·have hltI:decide ((i:Int)<(k:Int))=false:=decide_eq_false (by omega)
      have HT:=Hd ht;have HLR:Hid (LinesOwn wr 0 (.slice AO L.length cO) (L.map (·.2))):=⟨L,rfl,LRow.down ⟨⟨_,_,rfl⟩,hlo,hlp⟩ (Nat.zero_le _)⟩;have HRS:=Hd hrs;have HOUT:=Hd hout;clear hrs hout ht hmap hlo hlp hli;go_wp2_with fail;go_ret;refine⟨.slice AO L.length cO,L.map (·.2),rfl,HT.out,HLR.out,?_⟩;obtain rfl:i=k:=by omega
      rw[HGOAL.out,HPR.out];exact⟨HRS.out,fun a s' he=>((HOUT.out a s' he).1).symm⟩
end Go.Proofs.YtjpkkkphhaajgaaGreatDoor.wcp
namespace Go.Proofs.YtjpkkkphhaajgaaGreatDoor.wcp
open Go RowKit ChangeShapes WideShapes ChangeAt Maps words scn
variable {w:World} {gr gs:Nat} {bs:List UInt8} {wb:Int} {sv:Value} {α:Type} {r:Res α}
set_option maxRecDepth 100000 in
theorem rscope_bad {er x:Int}(h:Rbad w gr gs er x sv)(n:Int):Calls Tryz.prog 134 #[.pointer (some ⟨gr,0,none⟩),.int .i64 0,.int .i64 n] w fun e w'=>e = .returned (.slice none 0 0)∧w=w':=by
 go_enter Tryz.func134,Tryz.ntmps134
 go_wp2_with fail
 go_loopw [7,8,9,10] (fun ov iv _ _ wr=>ov = .slice none 0 0∧iv = .int .i64 0∧w=wr) (fun _ _ _ _ _=>0)
 case atStart=>exact⟨rfl,rfl,rfl⟩
 case round =>
  obtain⟨rfl,rfl,rfl⟩:=hrel;go_wp2_with fail;go_ret;exact⟨rfl,rfl⟩
set_option maxRecDepth 100000 in
set_option maxHeartbeats 4000000 in
theorem lines_bad {er x:Int}(h:Rbad w gr gs er x sv)(hne:gr≠gs)(A:Option Addr)(n c:Nat) :
 Calls Tryz.prog 135 #[.pointer (some ⟨gr,0,none⟩),.slice A n c] w fun e w'=>e = .returned (.slice none 0 0)∧Rbad w' gr gs er x sv∧Tch w w' (fun k=>k=gr∨k=gs):=by
 have hmm:=@run_makeMap Tryz.prog;have hnum:=rnum_bad h (-4611686018427387904) 4611686018427387904;obtain⟨big,bigAt,told,hr1,he1⟩:=h;have hok:=ok_any hr1;rw[decide_eq_false he1]at hok;obtain⟨q0,q1,q2,q3,q4,q5,q6,qf⟩:=hr1.cells;have f5:=qf 5;have HR1:=Hd hr1;have HE1:=Hd he1;clear hr1 he1 q0 q1 q2 q3 q4 q6 qf
 go_enter Tryz.func135,Tryz.ntmps135
 go_wp2_with fail;refine hnum.mono ?_;rintro e w1 ⟨rfl,rfl⟩;clear hnum;go_wp2_with fail;refine hok.mono ?_;rintro e w2 ⟨rfl,rfl⟩;clear hok;go_wp2_with fail;have hR2:Rbad (w.setCell ⟨gr,5,none⟩ (.int .i64 (min (wrap64 told) 4611686018427387904))) gr gs er x sv:=⟨big,bigAt,_,HR1.out.set_ 5 _,HE1.out⟩;have hlg:=large_un (r:=(.bad er x:Res Unit)) (gs:=gs) (bs := []) (wb:=0) (RS.bad hR2) hne (decide (16384<min (wrap64 told) 4611686018427387904)) 0;refine hlg.mono ?_;rintro e w3 ⟨⟨v3,rfl⟩,hrs3,ht3⟩;have HRS3:Hid (Rbad w3 gr gs er x sv):=hrs3;have HT3:=Hd ((Tch.put (S:=fun k=>k=gr∨k=gs) (Tch.refl w _) (p:=⟨gr,5,none⟩) (.int .i64 (min (wrap64 told) 4611686018427387904)) (.inl rfl)).trans (ht3.mono (S':=fun k=>k=gr∨k=gs) fun k _ h=>Or.inl h) fun _ _ h=>h);clear hlg hrs3 ht3 hR2 q5 f5;go_wp2_with fail
 go_loopw [8,9,10,11,13,14,15,16,17,95] (fun ov iv _ _ _ _ _ _ _ _ wr=>ov = .slice none 0 0∧iv = .int .i64 0∧wr=w3.alloc (.map #[] 0)) (fun _ _ _ _ _ _ _ _ _ _ _=>0)
 case atStart=>exact⟨rfl,rfl,rfl⟩
 case round =>
  obtain⟨rfl,rfl,rfl⟩:=hrel;go_wp2_with fail;go_ret;exact⟨rfl,Rbad.tch HRS3.out (Tch.of_below (bone w3 _) (fun _=>False)) id,HT3.out.trans (Tch.of_below (bone w3 _) (fun _=>False)) fun _ _ h=>h.elim⟩
theorem lines_un (h:RS w gr gs bs wb sv r)(hne:gr≠gs)(hgr:gr<w.heap.size)(hgs:gs<w.heap.size)(hn:bs.length≤1000000)(ht:Tab w)(hG1:0<gr)(hG2:0<gs)
 (A:Option Addr) (c0:Nat) (sizes:List Int) (hsr:w.ownsRow 0 2 1 (.slice A sizes.length c0) sizes.length (nums sizes)) (hs1:∀y∈sizes,1≤y∧y≤4611686018427387904) (hsl:sizes.length≤1000000)
 (sh:List (List Int × List (List Int × Int))) (hsh:ShV w sv sh) (hshl:sh.length≤1000000) (hp:∀a s,r = .ok a s→0≤s.told∧s.told≤1000000∧s.sh=sh) :
 Calls Tryz.prog 135 #[.pointer (some ⟨gr,0,none⟩),.slice A sizes.length c0] w fun e w'=>LinesR w gr gs bs wb sizes r sv e w':=by
 cases r with
 | ok a s =>
   obtain⟨h1,h2,rfl⟩:=hp a s rfl
   exact lines_any (u0:=a) h hne hgr hgs hn ht hG1 hG2 A c0 sizes hsr hs1 hsl h1 h2 hsh hshl
 | bad er x =>
   refine (lines_bad h hne A sizes.length c0).mono ?_;rintro e w' ⟨rfl,hb,ht'⟩;exact⟨_,[],rfl,ht',LinesOwn.nil _ _,hb,fun a s' he=>by cases he⟩
end Go.Proofs.YtjpkkkphhaajgaaGreatDoor.wcp
