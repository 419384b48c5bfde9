/- a part -/
import Derived.Test.YtjpkkkphhaajgaaGreatDoorQdP44
import Derived.Test.YtjpkkkphhaajgaaGreatDoorQdP14
set_option linter.all false
namespace Go.Proofs.YtjpkkkphhaajgaaGreatDoor.wcp
open Go RowKit ChangeShapes WideShapes ChangeAt Maps words scn
variable {w wt:World} {gr:Nat} {en ee:Int} {sv:Value}
def sfx:Nat→Code→Code
 |0,c=>c
 |n+1,.seq a b=>sfx n b
 |_+1,c=>c
noncomputable def qbody:Code:=Tryz.f90.body.getD .skip
set_option maxRecDepth 1000000 in
set_option maxHeartbeats 8000000 in
theorem qfun_end {all:List Int}{s s5:Ps}{a oo nn xn:Int}{vs vz vl:Value}{out zs:List Int}{L:List LT}(F3:F2 w wt gr en ee sv vs vz oo vl out zs (pallW en ee zs (nn,xn) s5))(hl:QLRow wt 0 vl L)(hls:∀ls s',pallW en ee zs (nn,xn) s5 = .ok ls s'→ls=L.map (·.2))(hgl:gr<w.heap.size)(h0:Qok w gr en ee s sv)
 (hp:pfun en ee all s=(pallW en ee zs (nn,xn) s5).bind fun ls s => .ok ⟨out,zs,oo,ls⟩ (if a<0 then { s with sh:=s.sh ++ [(zs,ls)] } else s)) (hsh:QSh w sv s.sh) (hshl:s.sh.length≤900000) (h5:s5.sh=s.sh)
 {k1 k2 k3 k6 k7 k9 k10 k11 k12 k13 k14 k15 k16 k17 k18 k19 k20 k21 k22 k23 k24 k25 k26 k27 k28 k29 k30 k31 k32 k33 k34 k35 k36 k37 k38 k39 k40 k41 k42 k43 k44 k45 k46 k47 k48 k49 k50 k51 k52 k53 k54 k55 k56 k57 k58 k59 k60 k61 k62 k63 k64 k65 k66 k67 k68 k69 k70 k71 k72 k73 k74 k75 k76 k77 k78 k79 k80 k81 k82 k83 k84 k85 k86 k87 k88 k89 k90 k91 k92 k93 k94 k95 k96 k97 k98 k99 k100 k101 k102 k103 k104 k105 k106 k107 k108 k109 k110 k111 k112 k113 k114 k115 k116 k117 k118 k119 k120 k121 k122 k123 k124 k125 k126 k127 k128 k129 k130 k131 k132 k133 k134 k135 k136 k137 k138 k139 k140 k141 k142 k143 k144 k145 k146 k147 k148 k149 k150 k151 k152 k153 k154 k155 k156 k157 k158 k159 k160 k161 k162 k163 k164 k165 k166 k167 k168 k169 k170 k171 k172 k173 k174 k175 k176 k177 k178 k179 k180 k181 k182 k183 k184 k185 k186 k187 k188 k189 k190 k191 k192 k193 k194 k195 k196 k197 k198 k199 k200 k201 k202 k203 k204 k205 k206 k207 k208 k209 k210 k211 k212 k213 k214 k215 k216 k217 k218 k219 k220 k221 k222 k223 k224 k225 k226 k227 k228 k229 k230 k231 k232 k233 k234 k235 k236 k237 k238 k239 k240 k241 k242 k243 k244 k245 k246 k247 k248 k249 k250 k251 k252 k253 k254 k255 k256 k257 k258 k259 k260 k261 k262 k263 k264 k265 k266 k267 k268 k269 k270 k271 k272 k273 k274 k275 k276 k277 k278 k279 k280:Value} :
 Code.wp Tryz.prog (sfx 14 qbody) (bodyPost Tryz.prog Tryz.f90 fun e w'=>QFunR w gr en ee all s sv e w') ⟨#[.pointer (some ⟨gr,0,none⟩),k1,k2,k3,.pointer (some ⟨w.heap.size,0,none⟩),.pointer (some ⟨w.heap.size+1,0,none⟩),k6,k7,.bool (decide (a<0)),k9,k10,k11,k12,k13,k14,k15,k16,k17,k18,k19,k20,k21,k22,k23,k24,k25,k26,k27,k28,k29,k30,k31,k32,k33,k34,k35,k36,k37,k38,k39,k40,k41,k42,k43,k44,k45,k46,k47,k48,k49,k50,k51,k52,k53,k54,k55,k56,k57,k58,k59,k60,k61,k62,k63,k64,k65,k66,k67,k68,k69,k70,k71,k72,k73,k74,k75,k76,k77,k78,k79,k80,k81,k82,k83,k84,k85,k86,k87,k88,k89,k90,k91,k92,k93,k94,k95,k96,k97,k98,k99,k100,k101,k102,k103,k104,k105,k106,k107,k108,k109,k110,k111,k112,k113,k114,k115,k116,k117,k118,k119,k120,k121,k122,k123,k124,k125,k126,k127,k128,k129,k130,k131,k132,k133,k134,k135,k136,k137,k138,k139,k140,k141,k142,k143,k144,k145,k146,k147,k148,k149,k150,k151,k152,k153,k154,k155,k156,k157,k158,k159,k160,k161,k162,k163,k164,k165,k166,k167,k168,k169,k170,k171,k172,k173,k174,k175,k176,k177,k178,k179,k180,k181,k182,k183,k184,k185,k186,k187,k188,k189,k190,k191,k192,k193,k194,k195,k196,k197,k198,k199,k200,k201,k202,k203,k204,k205,k206,k207,k208,k209,k210,k211,k212,k213,k214,k215,k216,k217,k218,k219,k220,k221,k222,k223,k224,k225,k226,k227,k228,k229,k230,k231,k232,k233,k234,k235,k236,k237,k238,k239,k240,k241,k242,k243,k244,k245,k246,k247,k248,k249,k250,k251,k252,k253,k254,k255,k256,k257,k258,k259,k260,k261,k262,k263,k264,k265,k266,k267,k268,k269,k270,k271,k272,k273,k274,k275,k276,k277,k278,k279,k280],[]⟩ wt:=by
 conv=>arg 2;whnf
 obtain⟨iF,hF0,hF1,hF2,hF3⟩:=info_parts infoQF;obtain⟨A1,d1,rfl⟩:=F3.sc.1;obtain⟨A2,d2,rfl⟩:=F3.sz.1;obtain⟨A3,d3,rfl⟩:=hl.1;obtain⟨y0,y1,y2,y3,-⟩:=Blk.four (t:=70) F3.fb;obtain⟨z0,z1,z2,z3,zf0,zf1,zf2,zf3⟩:=Blk.four (t:=70) F3.rb;have HF:=Hd F3;have HL:=Hd hl;have HLS:=Hd hls;have H0:=Hd h0;have HP:=Hd hp;have HSH:=Hd hsh;have H5:=Hd h5;clear F3 hl hls h0 hp hsh h5;by_cases ha:a<0
 ·have haI:decide (a<0)=true:=decide_eq_true ha
  obtain⟨fs,hfs,SL,hSL,⟨SA,SC,rfl⟩,hso,hsp⟩:=HSH.out
  have hSLl:SL.length≤900000:=by
   have h1:SL.length=s.sh.length:=by rw[← hfs,← hSL,List.length_map,List.length_map]
   omega
  have hsw:=own_off hso HF.out.tc (QS.off (r:=(.ok () s:Res Unit)) H0.out (by decide));obtain⟨_,_,_,_,_,_,hqb,-⟩:=HF.out.qs.blk;have e8:=(QB.cells hqb).2.2.2.2.2.2.2.2.1;have E8:=(QB.cells (Blk.alloc hqb (.cells #[.slice A1 out.length d1,.slice A2 zs.length d2,.int .i64 oo,.slice A3 L.length d3] 70))).2.2.2.2.2.2.2.2.1;obtain⟨Y0,Y1,Y2,Y3,-⟩:=Blk.four (t:=70) (HF.out.fb.alloc (.cells #[.slice A1 out.length d1,.slice A2 zs.length d2,.int .i64 oo,.slice A3 L.length d3] 70));have hA9:=(hsw.alloc (.cells #[.slice A1 out.length d1,.slice A2 zs.length d2,.int .i64 oo,.slice A3 L.length d3] 70)).drew;have hr9:Reads (wt.alloc (.cells #[.slice A1 out.length d1,.slice A2 zs.length d2,.int .i64 oo,.slice A3 L.length d3] 70)).drew (wt.alloc (.cells #[.slice A1 out.length d1,.slice A2 zs.length d2,.int .i64 oo,.slice A3 L.length d3] 70)).heap.size 4 (some ⟨wt.heap.size,0,none⟩) 1 [.slice A1 out.length d1,.slice A2 zs.length d2,.int .i64 oo,.slice A3 L.length d3]:=reads_four (t:=70) (heap_alloc_new _ _)
  have hone:∀u ∈ [Value.slice A1 out.length d1,.slice A2 zs.length d2,.int .i64 oo,.slice A3 L.length d3],u.oneCell'=true:=fun u hu=>by
   simp only[List.mem_cons,List.not_mem_nil,or_false]at hu;rcases hu with rfl | rfl | rfl | rfl<;>rfl
  have HSO:=Hd hso;have HSP:=Hd hsp;have HSL:=Hd hSL;have HFS:=Hd hfs;have HONE:=Hd hone;clear hso hsp hSL hfs hone hqb hsw;go_upto_region 65 with fail
  go_region_law (refine step_append_any _ rfl (.tmp 274) (.tmp 276) 47 rfl 0 70 iF _ 4 80 Tryz.underlying47 hF0 hF1 hF2 hF3 rfl (by omega) (.slice SA SL.length SC) SL.length _ rfl hA9 (wt.alloc (.cells #[.slice A1 out.length d1,.slice A2 zs.length d2,.int .i64 oo,.slice A3 L.length d3] 70)).heap.size (some ⟨wt.heap.size,0,none⟩) 1 1 [.slice A1 out.length d1,.slice A2 zs.length d2,.int .i64 oo,.slice A3 L.length d3] rfl hr9 HONE.out (by simp only[maxLen];omega) (by omega) (Nat.zero_le _) ?_;intro v9 w9 hown9 hg9 hat9;obtain⟨A9,c9,rfl⟩:=own_shape hown9;obtain⟨hbs,s8,sf8,-,-⟩:=HF.out.share hgl HSO.out H0.out (below_drewN (bone wt (.cells #[.slice A1 out.length d1,.slice A2 zs.length d2,.int .i64 oo,.slice A3 L.length d3] 70)) 1) hg9;obtain⟨hb0,hb1⟩:=hbs (.slice A9 (SL.length+1) c9);have q0:=Blk.four (t:=70) hb0;have q1:=Blk.four (t:=70) hb1;obtain⟨q00,q01,q02,q03,qf0,qf1,qf2,qf3⟩:=q0;obtain⟨q10,q11,q12,q13,-⟩:=q1;have HO9:=Hd hown9;have HG9:=Hd hg9;have HA9:=Hd hat9;clear hown9 hg9 hat9 hbs hb0 hb1 hA9 hr9)
  all_goals
   go_wp2_with fail;obtain⟨wf,hwf⟩:∃wf,((((w9.setCell ⟨gr,8,none⟩ (.slice A9 (SL.length+1) c9)).setCell ⟨w.heap.size,0,none⟩ (.slice A1 out.length d1)).setCell ⟨w.heap.size,1,none⟩ (.slice A2 zs.length d2)).setCell ⟨w.heap.size,2,none⟩ (.int .i64 oo)).setCell ⟨w.heap.size,3,none⟩ (.slice A3 L.length d3)=wf:=⟨_,rfl⟩;obtain⟨hfb,hres⟩:=QFunR.neg HF.out HL.out HLS.out hgl H0.out HP.out ha H5.out HFS.out HSL.out HSO.out HSP.out (below_drewN (bone wt (.cells #[.slice A1 out.length d1,.slice A2 zs.length d2,.int .i64 oo,.slice A3 L.length d3] 70)) 1) HO9.out HG9.out HA9.out hwf;rw[hwf];obtain⟨k0,k1,k2,k3,-⟩:=Blk.four (t:=70) hfb;exact bodyPost_ret (v := .agg #[.slice A1 out.length d1,.slice A2 zs.length d2,.int .i64 oo,.slice A3 L.length d3]) (by simp[results,Tryz.results90,go_sem,k0,k1,k2,k3]) rfl hres
 ·have haI:decide (a<0)=false:=decide_eq_false ha
  go_wp2_with fail;obtain⟨wf,hwf⟩:∃wf,(((wt.setCell ⟨w.heap.size,0,none⟩ (.slice A1 out.length d1)).setCell ⟨w.heap.size,1,none⟩ (.slice A2 zs.length d2)).setCell ⟨w.heap.size,2,none⟩ (.int .i64 oo)).setCell ⟨w.heap.size,3,none⟩ (.slice A3 L.length d3)=wf:=⟨_,rfl⟩;obtain⟨hfb,hres⟩:=QFunR.late HF.out HL.out HLS.out hgl H0.out HP.out (by omega) HSH.out H5.out hwf;rw[hwf];obtain⟨k0,k1,k2,k3,-⟩:=Blk.four (t:=70) hfb;exact bodyPost_ret (v := .agg #[.slice A1 out.length d1,.slice A2 zs.length d2,.int .i64 oo,.slice A3 L.length d3]) (by simp[results,Tryz.results90,go_sem,k0,k1,k2,k3]) rfl hres
end Go.Proofs.YtjpkkkphhaajgaaGreatDoor.wcp
namespace Go.Proofs.YtjpkkkphhaajgaaGreatDoor.wcp
open Go RowKit ChangeShapes WideShapes ChangeAt Maps words scn
variable {w wc:World} {gr:Nat} {en ee:Int} {sv:Value}
set_option maxRecDepth 1000000 in
set_option maxHeartbeats 8000000 in
theorem qfun_lines {all:List Int}{s s5:Ps}{a oo nn xn:Int}{vs vz vl:Value}{out zs:List Int}{L:List LT}{lb:Nat}(h:LnQ w wc gr en ee sv vs vz oo vl out zs nn xn s5 lb L 0)(hgl:gr<w.heap.size)(h0:Qok w gr en ee s sv)(hee:ee≠0)
 (hz1:∀z∈zs,1≤z∧z≤4611686018427387904) (hnn:nn≤4611686018427387904) (hzl:zs.length≤1000000)
 (hp:pfun en ee all s=(pallW en ee zs (nn,xn) s5).bind fun ls s => .ok ⟨out,zs,oo,ls⟩ (if a<0 then { s with sh:=s.sh ++ [(zs,ls)] } else s)) (hsh:QSh w sv s.sh) (hshl:s.sh.length≤900000) (h5:s5.sh=s.sh)
 {k1 k2 k3 k6 k7 k9 k10 k11 k12 k13 k14 k15 k16 k18 k19 k20 k21 k22 k23 k24 k25 k26 k27 k28 k29 k30 k31 k32 k33 k34 k35 k36 k37 k38 k39 k40 k41 k42 k43 k44 k45 k46 k47 k48 k49 k50 k51 k52 k53 k54 k55 k56 k57 k58 k59 k60 k61 k62 k63 k64 k65 k66 k67 k68 k69 k70 k71 k72 k73 k74 k75 k76 k77 k78 k79 k80 k81 k82 k83 k84 k85 k86 k87 k88 k89 k90 k91 k92 k93 k94 k95 k96 k97 k98 k99 k100 k101 k102 k103 k104 k105 k106 k107 k108 k109 k110 k111 k112 k113 k114 k115 k116 k117 k118 k119 k120 k121 k122 k123 k124 k125 k126 k127 k128 k129 k130 k131 k132 k133 k134 k135 k136 k137 k138 k139 k140 k141 k142 k143 k144 k145 k146 k147 k148 k149 k150 k151 k152 k153 k154 k155 k156 k157 k158 k159 k160 k161 k162 k163 k164 k165 k166 k167 k168 k169 k170 k171 k172 k173 k174 k175 k176 k177 k178 k179 k180 k181 k182 k183 k184 k185 k186 k187 k188 k189 k190 k191 k192 k193 k194 k195 k196 k197 k198 k199 k200 k201 k202 k203 k204 k205 k206 k207 k208 k209 k210 k211 k212 k213 k214 k215 k216 k217 k218 k219 k220 k221 k222 k223 k224 k225 k226 k227 k228 k229 k230 k231 k232 k233 k234 k235 k236 k237 k238 k239 k240 k241 k242 k243 k244 k245 k246 k247 k248 k249 k250 k251 k252 k253 k254 k255 k256 k257 k258 k259 k260 k261 k262 k263 k264 k265 k266 k267 k268 k269 k270 k271 k272 k273 k274 k275 k276 k277 k278 k279 k280:Value} :
 Code.wp Tryz.prog (sfx 13 qbody) (bodyPost Tryz.prog Tryz.f90 fun e w'=>QFunR w gr en ee all s sv e w') ⟨#[.pointer (some ⟨gr,0,none⟩),k1,k2,k3,.pointer (some ⟨w.heap.size,0,none⟩),.pointer (some ⟨w.heap.size+1,0,none⟩),k6,k7,.bool (decide (a<0)),k9,k10,k11,k12,k13,k14,k15,k16,.int .i64 nn,k18,k19,k20,k21,k22,k23,k24,k25,k26,k27,k28,k29,k30,k31,k32,k33,k34,k35,k36,k37,k38,k39,k40,k41,k42,k43,k44,k45,k46,k47,k48,k49,k50,k51,k52,k53,k54,k55,k56,k57,k58,k59,k60,k61,k62,k63,k64,k65,k66,k67,k68,k69,k70,k71,k72,k73,k74,k75,k76,k77,k78,k79,k80,k81,k82,k83,k84,k85,k86,k87,k88,k89,k90,k91,k92,k93,k94,k95,k96,k97,k98,k99,k100,k101,k102,k103,k104,k105,k106,k107,k108,k109,k110,k111,k112,k113,k114,k115,k116,k117,k118,k119,k120,k121,k122,k123,k124,k125,k126,k127,k128,k129,k130,k131,k132,k133,k134,k135,k136,k137,k138,k139,k140,k141,k142,k143,k144,k145,k146,k147,k148,k149,k150,k151,k152,k153,k154,k155,k156,k157,k158,k159,k160,k161,k162,k163,k164,k165,k166,k167,k168,k169,k170,k171,k172,k173,k174,k175,k176,k177,k178,k179,k180,k181,k182,k183,k184,k185,k186,k187,k188,k189,k190,k191,k192,k193,k194,k195,k196,k197,k198,k199,k200,k201,k202,k203,k204,k205,k206,k207,k208,k209,k210,k211,k212,k213,k214,k215,k216,k217,k218,k219,k220,k221,k222,k223,k224,k225,k226,k227,k228,k229,k230,k231,k232,k233,k234,k235,k236,k237,k238,k239,k240,k241,k242,k243,k244,k245,k246,k247,k248,k249,k250,k251,k252,k253,k254,k255,k256,k257,k258,k259,k260,k261,k262,k263,k264,k265,k266,k267,k268,k269,k270,k271,k272,k273,k274,k275,k276,k277,k278,k279,k280],[]⟩ wc:=by
 conv=>arg 2;whnf
 obtain⟨iL,hL0,hL1,hL2,hL3⟩:=info_parts infoQL;obtain⟨i6,h60,h61,h62,h63⟩:=info_parts info64;obtain⟨SA0,SC0,rfl⟩:=h.f2.sc.1;obtain⟨FA,FC,rfl⟩:=h.f2.sz.1;obtain⟨LA0,LC0,rfl⟩:=h.ln.1;have HLN:=Hd h;have H0:=Hd h0;have HP:=Hd hp;have HSH:=Hd hsh;have H5:=Hd h5;have HZ1:=Hd hz1;have HLZ:=Hd (nums_own_len h.f2.sz.2);have HZM:=Hd (own_max h.f2.sz.2);clear h h0 hp hsh h5 hz1;go_wp2_with fail
 go_loopw [18] (fun iv wt => ∃ (i:Nat) (LA:Option Addr) (LC:Nat) (L:List LT) (lb:Nat),iv = .int .i64 i∧Hid (LnQ w wt gr en ee sv (.slice SA0 out.length SC0) (.slice FA zs.length FC) oo (.slice LA L.length LC) out zs nn xn s5 lb L i)) (fun iv _=>(nn-intOf iv).toNat)
 case atStart=>exact⟨0,LA0,LC0,L,lb,rfl,HLN⟩
 case round =>
  clear HLN;obtain⟨i,LA,LC,L,lb,rfl,hln⟩:=hrel;by_cases hlt:(i:Int)<nn
  ·have hltI:decide ((i:Int)<nn)=true:=decide_eq_true hlt
   by_cases hgd:(rln en ee zs nn xn s5 i).good=true
   ·obtain⟨wl,hwl⟩:∃wl,wl=wr:=⟨_,rfl⟩
    subst hwl;obtain⟨ls2,s4,hrl⟩:=good_ok hgd;have hnn0:0≤nn:=by omega
    obtain rfl:lb=w.heap.size+2:=hln.out.lb hnn0;have hsz:=hln.out.f2.size;have hgt:gr<wl.heap.size:=by omega
    have HRL:=Hd hrl;have X0:=LnX.start (qok_of (b:=([]:List Int)) hln.out.f2.qs hrl);obtain⟨lv,bad_,badAt,big,bigAt,told,hqb,hb0,-⟩:=(qok_of (b:=()) hln.out.f2.qs hrl).blk;obtain rfl:bad_=0:=by simpa [Res.good] using hb0
    have c3:=(QB.cells hqb).2.2.2.1;obtain⟨wx,hwx⟩:∃wx,wl.alloc (.cells #[.slice none 0 0,.int .i64 0] 137)=wx:=⟨_,rfl⟩;rw[hwx]at X0;obtain⟨y0,y1,y2,y3,-⟩:=Blk.four (t:=70) (hln.out.f2.tch hgl X0.tc X0.qs).fb;have HX0:Hid (LnX wl wx gr en ee sv [] none 0 0 (ptup en ee (zs.take 0) [] s4)):=X0;have HLN:=hln;clear hqb hb0 hgd hrl X0 hln;go_wp2_with fail
    go_loopw [215] (fun jv wq => ∃ (j:Nat) (tt:List Int) (At:Option Addr) (ct:Nat),jv = .int .i64 j∧tt.length=j∧j≤zs.length∧Hid (LnX wl wq gr en ee sv tt At ct 0 (ptup en ee (zs.take j) [] s4))∧Hid (∀t' s',ptup en ee (zs.take j) [] s4 = .ok t' s'→t'=tt)) (fun jv _=>zs.length-(intOf jv).toNat)
    case atStart=>exact⟨0,[],none,0,rfl,rfl,Nat.zero_le _,HX0,fun t' s' h=>by injection h with h _;exact h.symm⟩
    case round =>
     clear HX0 c3 hwx y0 y1 y2 y3;obtain⟨j,tt,At,ct,rfl,htl,hjz,hX,hTQ⟩:=hrel;by_cases hjl:j<zs.length
     ·subst htl
      have hF:=HLN.out.f2.tch hgl hX.out.tc hX.out.qs;obtain⟨ad,y,hA1,-,hy,hc⟩:=(Reads.of_own hF.sz.2).num hjl;subst hA1;have hjI:decide ((tt.length:Int)<(zs.length:Int))=true:=decide_eq_true (by omega);have hy1:=HZ1.out y (List.mem_of_getElem? hy);have hn5:=qnum_un hX.out.qs hee 0 (y-1);have HY:=Hd hy;clear hF hy;go_wp2_with fail;refine hn5.mono ?_;rintro e w5 ⟨v,xv,rfl,t5,hs5,hv5,hz5⟩;have hX5:=hX.out.tch hgt t5 hs5;obtain⟨x0,x1⟩:=Blk.two hX5.xb;have hA6:=hX5.row.alloc (.cells #[.int .i64 v] 2);have hr6:Reads (w5.alloc (.cells #[.int .i64 v] 2)) (w5.alloc (.cells #[.int .i64 v] 2)).heap.size 1 (some ⟨w5.heap.size,0,none⟩) 1 (nums [v]):=reads_block (t:=2) (heap_alloc_new _ _) rfl;have hs6:wl.heap.size+1≤(w5.alloc (.cells #[.int .i64 v] 2)).heap.size:=by have:=hX5.xb.lt;simp;omega
      have HV5:=Hd hv5;have HX5:=Hd hX5;clear hn5 hc t5 hs5 hv5 hz5 hX5
      go_wp2_with (first
       |(at_builtin;refine wpList_append_any _ rfl (.tmp 227) (.tmp 229) _ rfl (wl.heap.size+1) 2 i6 _ 1 8 Tryz.underlying46 h60 h61 h62 h63 rfl (by omega) (.slice At tt.length ct) tt.length _ rfl hA6 (w5.alloc (.cells #[.int .i64 v] 2)).heap.size (some ⟨w5.heap.size,0,none⟩) 1 1 (nums [v]) rfl hr6 nums_one (by simp only[maxLen];omega) (by omega) hs6 ?_;intro v6 w6 hown6 hg6 hat6;obtain⟨A6,c6,rfl⟩:=own_shape hown6;have hm6:=HX5.out.mid (bone w5 (.cells #[.int .i64 v] 2)) hg6 (fun q hq=>(own_in HX5.out.row hq).1);obtain⟨d60,d61⟩:=Blk.two hm6;have d6f:=hm6.frozen 0;have HX7:=Hd (HX5.out.app hgt (bone w5 (.cells #[.int .i64 v] 2)) hown6 hg6);clear hown6 hg6 hat6 hm6 hA6 hr6 x0 x1)
       |fail)
      go_roundw
      case measure=>simp[intOf];omega
      case rel=>exact⟨tt.length+1,tt ++ [v],A6,c6,by go_num,by simp,hjl,HX7.out.re (tup_qs HY.out HX7.out.qs),tup_val HY.out hTQ.out HV5.out⟩
     ·obtain rfl:j=zs.length:=by omega
      have HTL:=Hd htl;clear htl;have hjI:decide ((zs.length:Int)<(zs.length:Int))=false:=decide_eq_false (by omega);rw[List.take_of_length_le (Nat.le_refl _)]at hX hTQ;have hn5:=qnum_un hX.out.qs hee 0 4611686018427387904;go_wp2_with fail;refine hn5.mono ?_;rintro e w5 ⟨cv,xc,rfl,t5,hs5,hv5,hz5⟩;have hX5:=hX.out.tch hgt t5 hs5;have hX6:=LnX.re hX5 (pdup_nil (tt:=tt) (xc:=xc) hX5.qs);obtain⟨y0,y1,y2,y3,-⟩:=Blk.four (t:=70) (HLN.out.f2.tch hgl hX5.tc hX5.qs).fb;have HX6:Hid (LnX wl w5 gr en ee sv tt At ct 0 (pdup tt xc ((L.map (·.2.1)).take 0) ((ptup en ee zs [] s4).bind fun _ s=>pnum en ee 0 far s))):=hX6;have HV5:=Hd hv5;have hcr:=NumU.range hv5 hz5 (by omega) (by omega);have HTQ:=hTQ;clear hn5 t5 hs5 hv5 hz5 hX5 hX6 hX hTQ;go_wp2_with fail
      go_loopw [241] (fun jv wq => ∃m:Nat,jv = .int .i64 m∧m≤L.length∧Hid (LnX wl wq gr en ee sv tt At ct 0 (pdup tt xc ((L.map (·.2.1)).take m) ((ptup en ee zs [] s4).bind fun _ s=>pnum en ee 0 far s)))) (fun jv _=>L.length-(intOf jv).toNat)
      case atStart=>exact⟨0,rfl,Nat.zero_le _,HX6⟩
      case round =>
       clear HX6 y0 y1 y2 y3;obtain⟨m,rfl,hml,hXm⟩:=hrel;have hLl:L.length≤1000001:=by have h1:=HLN.out.len hnn0;have h2:=HLN.out.lim hnn0;omega
       by_cases hmL:m<L.length
       ·obtain⟨pp,hpp⟩:∃pp,L[m]?=some pp:=⟨_,List.getElem?_eq_getElem hmL⟩
        have R:=HLN.out.ln.tch hXm.out.tc (HLN.out.f2.qs.off (by decide)) (HLN.out.f2.qs.off (by decide));obtain⟨q4,rfl,-,-⟩:=own_some R.2.1 (by omega);obtain⟨⟨tA,tC,htv⟩,hro⟩:=R.2.2 pp (List.mem_of_getElem? hpp);obtain⟨tv,tu,tk⟩:=pp;dsimp only at htv hro;subst htv;obtain⟨e1,e2⟩:=qlc_at hpp;have c40:=(R.2.1.cellAt (m*2) (by omega)).trans e1;have c41:=(R.2.1.cellAt (m*2+1) (by omega)).trans e2;have mI:decide ((m:Int)<(L.length:Int))=true:=decide_eq_true (by omega);have i0:(0:Int)≤(m:Int):=Int.natCast_nonneg _;have i1:(m:Int)<(L.length:Int):=by omega
        obtain⟨wy,hwy⟩:∃wy,wr.alloc (.cells #[.slice tA tu.length tC,.int .i64 tk] 137)=wy:=⟨_,rfl⟩;have hby:=bone wr (.cells #[.slice tA tu.length tC,.int .i64 tk] 137);have hyb:Blk (wr.alloc (.cells #[.slice tA tu.length tC,.int .i64 tk] 137)) wr.heap.size 137 #[.slice tA tu.length tC,.int .i64 tk]:=Blk.new _ _ _;rw[hwy]at hby hyb;have hXy:=hXm.out.tch hgt (Tch.of_below hby _) (hXm.out.qs.below hby);have hro':=own_under hro hby;obtain⟨x0,x1⟩:=Blk.two hXy.xb;obtain⟨z0,z1⟩:=Blk.two hyb;have hpu:(L.map (·.2.1))[m]?=some tu:=by rw[List.getElem?_map,hpp];rfl
        have hnx:=pdup_next (tt:=tt) (xc:=xc) (r:=((ptup en ee zs [] s4).bind fun _ s=>pnum en ee 0 far s)) hpu;have HNX:=Hd hnx;obtain⟨RM,hRM⟩:∃RM,pdup tt xc ((L.map (·.2.1)).take m) ((ptup en ee zs [] s4).bind fun _ s=>pnum en ee 0 far s)=RM:=⟨_,rfl⟩;obtain⟨RN,hRN⟩:∃RN,pdup tt xc ((L.map (·.2.1)).take (m+1)) ((ptup en ee zs [] s4).bind fun _ s=>pnum en ee 0 far s)=RN:=⟨_,rfl⟩;rw[hRM]at hXy;rw[hRM,hRN]at HNX;have HRN:=Hd hRN;have HXY:=Hd hXy;have hsm:=same_ref At tA tt.length tu.length ct tC tt tu wy (own_max hXy.row) (own_max hro') (Reads.of_own hXy.row) (Reads.of_own hro');obtain⟨lv,bad_,badAt,big,bigAt,told,hqb,hb0,-⟩:=hXy.qs.blk;have d3:=(QB.cells hqb).2.2.2.1;clear hqb hXy hro' hro hyb hpu hnx hRM hRN e1 e2 hpp R hby hXm
        cases RM with
        | bad er x =>
          have hbe:(bad_==0)=false:=by
           have:¬ bad_=0:=of_decide_eq_false (by rw[hb0];rfl);simp[this]
          clear hsm hb0;go_wp2_with fail;go_roundw
          case measure=>simp[intOf];omega
          case rel=>exact⟨m+1,by go_num,hmL,by rw[HRN.out,HNX.out.1 _ _ rfl];exact HXY.out⟩
        | ok u0 s6 =>
          obtain rfl:bad_=0:=by simpa [Res.good] using hb0
          clear hb0;go_wp2_with fail;refine hsm.mono ?_;rintro e w7 ⟨rfl,hb7⟩;have HX7:=Hd (HXY.out.tch hgt (Tch.of_below hb7 _) (HXY.out.qs.below hb7));clear hsm hb7 d3 x0 x1 z0 z1 c40 c41;by_cases hE:tt=tu
          ·have hEb:eqB tt tu=true:=decide_eq_true hE
           have hwr:=qwrong_un (a:=()) (show Qok w7 gr en ee s6 sv from HX7.out.qs) 4 xc (by decide);have HE:=Hd hE;clear hE;go_wp2_with fail;refine hwr.mono ?_;rintro e w8 ⟨⟨u,rfl⟩,hq8,t8⟩;have HX8:=Hd (HX7.out.tch hgt t8 (show QS w8 gr en ee sv (.bad 4 xc:Res Unit) from hq8));clear hwr hq8 t8;go_wp2_with fail;go_roundw
           case measure=>simp[intOf];omega
           case rel=>exact⟨m+1,by go_num,hmL,by rw[HRN.out,HNX.out.2 _ _ rfl,if_pos HE.out];exact HX8.out⟩
          ·have hEb:eqB tt tu=false:=decide_eq_false hE
           have HE:=Hd hE;clear hE;go_wp2_with fail;go_roundw
           case measure=>simp[intOf];omega
           case rel=>exact⟨m+1,by go_num,hmL,by rw[HRN.out,HNX.out.2 _ _ rfl,if_neg HE.out];exact HX7.out⟩
       ·obtain rfl:m=L.length:=by omega
        have mI:decide ((L.length:Int)<(L.length:Int))=false:=decide_eq_false (by omega);rw[List.take_of_length_le (by simp)]at hXm;obtain⟨wp,hwp⟩:∃wp,wr.setCell ⟨wl.heap.size,1,none⟩ (.int .i64 cv)=wp:=⟨_,rfl⟩;have x1f:=hXm.out.xb.frozen 1;obtain⟨x0,x1⟩:=Blk.two hXm.out.xb;have hXp:=hXm.out.put hgt cv;rw[hwp]at hXp;have hF:=HLN.out.f2.tch hgl hXp.tc hXp.qs;have R:=HLN.out.ln.tch hXp.tc (HLN.out.f2.qs.off (by decide)) (HLN.out.f2.qs.off (by decide));obtain⟨y0,y1,y2,y3,-⟩:=Blk.four (t:=70) hF.fb;obtain⟨p0,p1⟩:=Blk.two hXp.xb;have hA6:=R.2.1.alloc (.cells #[.slice At tt.length ct,.int .i64 cv] 137);have hr6:Reads (wp.alloc (.cells #[.slice At tt.length ct,.int .i64 cv] 137)) (wp.alloc (.cells #[.slice At tt.length ct,.int .i64 cv] 137)).heap.size 2 (some ⟨wp.heap.size,0,none⟩) 1 [.slice At tt.length ct,.int .i64 cv]:=reads_two (t:=137) (heap_alloc_new _ _)
        have hone:∀u ∈ [Value.slice At tt.length ct,.int .i64 cv],u.oneCell'=true:=fun u hu=>by
         simp only[List.mem_cons,List.not_mem_nil,or_false]at hu;rcases hu with rfl | rfl<;>rfl
        have hs6:w.heap.size+2≤(wp.alloc (.cells #[.slice At tt.length ct,.int .i64 cv] 137)).heap.size:=by have:=hF.size;simp;omega
        have HONE:=Hd hone;have HXP:=Hd hXp;have HF:=Hd hF;have HR:=Hd R;clear hone hXp hF R hXm
        go_wp2_with (first
         |(at_builtin;refine wpList_append_any _ rfl (.tmp 264) (.tmp 266) _ rfl (w.heap.size+2) 137 iL _ 2 32 Tryz.underlying68 hL0 hL1 hL2 hL3 rfl (by omega) (.slice LA L.length LC) L.length _ rfl hA6 (wp.alloc (.cells #[.slice At tt.length ct,.int .i64 cv] 137)).heap.size (some ⟨wp.heap.size,0,none⟩) 1 1 [.slice At tt.length ct,.int .i64 cv] rfl hr6 HONE.out (by simp only[maxLen];omega) (by omega) hs6 ?_;intro v6 w6 hown6 hg6 hat6;obtain⟨A6,c6,rfl⟩:=own_shape hown6;have hm6:=HF.out.mid (bone wp (.cells #[.slice At tt.length ct,.int .i64 cv] 137)) hg6 (fun q hq=>(own_in HR.out.2.1 hq).1);have d63:=(Blk.four (t:=70) hm6).2.2.2.1;have d6f:=hm6.frozen 3;have HQ:=Hd (LnQ.next HLN.out hgl hnn0 hlt HRL.out HTQ.out HV5.out HXP.out (bone wp (.cells #[.slice At tt.length ct,.int .i64 cv] 137)) hown6 hg6);clear hown6 hg6 hat6 hm6 hA6 hr6 x0 x1 y0 y1 y2 y3 p0 p1 x1f hwp)
         |fail)
        go_roundw
        case measure=>simp[intOf];omega
        case rel =>
         have hl:(L ++ [((Value.slice At tt.length ct,tt,cv):LT)]).length=L.length+1:=by simp
         exact⟨i+1,A6,c6,L ++ [(.slice At tt.length ct,tt,cv)],w.heap.size+2,by go_num,by rw[hl];exact HQ.out⟩
   ·have HBD:=Hd (bad_of hgd)
    have HD:=Hd (LnQ.done hln.out (.inr (.inr HBD.out)));obtain⟨lv,bad_,badAt,big,bigAt,told,hqb,hb0,-⟩:=hln.out.f2.qs.blk
    have hbe:(bad_==0)=false:=by
     have:¬ bad_=0:=fun h=>hgd (by rw[← hb0];exact decide_eq_true h)
     simp[this]
    have c3:=(QB.cells hqb).2.2.2.1;clear hqb hb0 hgd
    go_upto_if 209 with fail
    repeat (first | (exact qfun_end HD.out.1 HD.out.2.1 HD.out.2.2 hgl H0.out HP.out HSH.out hshl H5.out) | go_step)
  ·have hltI:decide ((i:Int)<nn)=false:=decide_eq_false hlt
   have HD:Hid _:=Hd (LnQ.done hln.out (by
    by_cases h:nn<0
    ·exact .inl h
    ·have:=hln.out.le (by omega)
     exact .inr (.inl (by omega))))
   go_upto_if 209 with fail
   repeat (first | (exact qfun_end HD.out.1 HD.out.2.1 HD.out.2.2 hgl H0.out HP.out HSH.out hshl H5.out) | go_step)
end Go.Proofs.YtjpkkkphhaajgaaGreatDoor.wcp
namespace Go.Proofs.YtjpkkkphhaajgaaGreatDoor.wcp
open Go RowKit ChangeShapes WideShapes ChangeAt Maps words scn
variable {w w6:World} {gr:Nat} {en ee:Int} {sv:Value}
set_option maxRecDepth 1000000 in
set_option maxHeartbeats 8000000 in
theorem qfun_from {all:List Int}{s s5:Ps}{a oo nn xn:Int}{vs vz:Value}{out zs:List Int}(h:F2 w w6 gr en ee sv vs vz oo (.slice none 0 0) out zs (.ok (nn,xn) s5:Res (Int × Int)))(hgl:gr<w.heap.size)(h0:Qok w gr en ee s sv)(hee:ee≠0)
 (hz1:∀z∈zs,1≤z∧z≤4611686018427387904) (hrg : -4611686018427387904≤nn∧nn≤4611686018427387904) (hzl:zs.length≤1000000) (htb:0≤s5.told∧s5.told≤1000000) (hl5:s5.l.length≤1000000)
 (hp:pfun en ee all s=(pallW en ee zs (nn,xn) s5).bind fun ls s => .ok ⟨out,zs,oo,ls⟩ (if a<0 then { s with sh:=s.sh ++ [(zs,ls)] } else s)) (hsh:QSh w sv s.sh) (hshl:s.sh.length≤900000) (h5:s5.sh=s.sh)
 {k1 k2 k3 k6 k9 k10 k11 k12 k13 k14 k15 k16 k18 k19 k20 k21 k22 k23 k24 k25 k26 k27 k28 k29 k30 k31 k32 k33 k34 k35 k36 k37 k38 k39 k40 k41 k42 k43 k44 k45 k46 k47 k48 k49 k50 k51 k52 k53 k54 k55 k56 k57 k58 k59 k60 k61 k62 k63 k64 k65 k66 k67 k68 k69 k70 k71 k72 k73 k74 k75 k76 k77 k78 k79 k80 k81 k82 k83 k84 k85 k86 k87 k88 k89 k90 k91 k92 k93 k94 k95 k96 k97 k98 k99 k100 k101 k102 k103 k104 k105 k106 k107 k108 k109 k110 k111 k112 k113 k114 k115 k116 k117 k118 k119 k120 k121 k122 k123 k124 k125 k126 k127 k128 k129 k130 k131 k132 k133 k134 k135 k136 k137 k138 k139 k140 k141 k142 k143 k144 k145 k146 k147 k148 k149 k150 k151 k152 k153 k154 k155 k156 k157 k158 k159 k160 k161 k162 k163 k164 k165 k166 k167 k168 k169 k170 k171 k172 k173 k174 k175 k176 k177 k178 k179 k180 k181 k182 k183 k184 k185 k186 k187 k188 k189 k190 k191 k192 k193 k194 k195 k196 k197 k198 k199 k200 k201 k202 k203 k204 k205 k206 k207 k208 k209 k210 k211 k212 k213 k214 k215 k216 k217 k218 k219 k220 k221 k222 k223 k224 k225 k226 k227 k228 k229 k230 k231 k232 k233 k234 k235 k236 k237 k238 k239 k240 k241 k242 k243 k244 k245 k246 k247 k248 k249 k250 k251 k252 k253 k254 k255 k256 k257 k258 k259 k260 k261 k262 k263 k264 k265 k266 k267 k268 k269 k270 k271 k272 k273 k274 k275 k276 k277 k278 k279 k280:Value} :
 Code.wp Tryz.prog (sfx 12 qbody) (bodyPost Tryz.prog Tryz.f90 fun e w'=>QFunR w gr en ee all s sv e w') ⟨#[.pointer (some ⟨gr,0,none⟩),k1,k2,k3,.pointer (some ⟨w.heap.size,0,none⟩),.pointer (some ⟨w.heap.size+1,0,none⟩),k6,.int .i64 xn,.bool (decide (a<0)),k9,k10,k11,k12,k13,k14,k15,k16,.int .i64 nn,k18,k19,k20,k21,k22,k23,k24,k25,k26,k27,k28,k29,k30,k31,k32,k33,k34,k35,k36,k37,k38,k39,k40,k41,k42,k43,k44,k45,k46,k47,k48,k49,k50,k51,k52,k53,k54,k55,k56,k57,k58,k59,k60,k61,k62,k63,k64,k65,k66,k67,k68,k69,k70,k71,k72,k73,k74,k75,k76,k77,k78,k79,k80,k81,k82,k83,k84,k85,k86,k87,k88,k89,k90,k91,k92,k93,k94,k95,k96,k97,k98,k99,k100,k101,k102,k103,k104,k105,k106,k107,k108,k109,k110,k111,k112,k113,k114,k115,k116,k117,k118,k119,k120,k121,k122,k123,k124,k125,k126,k127,k128,k129,k130,k131,k132,k133,k134,k135,k136,k137,k138,k139,k140,k141,k142,k143,k144,k145,k146,k147,k148,k149,k150,k151,k152,k153,k154,k155,k156,k157,k158,k159,k160,k161,k162,k163,k164,k165,k166,k167,k168,k169,k170,k171,k172,k173,k174,k175,k176,k177,k178,k179,k180,k181,k182,k183,k184,k185,k186,k187,k188,k189,k190,k191,k192,k193,k194,k195,k196,k197,k198,k199,k200,k201,k202,k203,k204,k205,k206,k207,k208,k209,k210,k211,k212,k213,k214,k215,k216,k217,k218,k219,k220,k221,k222,k223,k224,k225,k226,k227,k228,k229,k230,k231,k232,k233,k234,k235,k236,k237,k238,k239,k240,k241,k242,k243,k244,k245,k246,k247,k248,k249,k250,k251,k252,k253,k254,k255,k256,k257,k258,k259,k260,k261,k262,k263,k264,k265,k266,k267,k268,k269,k270,k271,k272,k273,k274,k275,k276,k277,k278,k279,k280],[]⟩ w6:=by
 conv=>arg 2;whnf
 obtain⟨OA,OC,rfl⟩:=h.sc.1;obtain⟨FA,FC,rfl⟩:=h.sz.1;have F:=Hd h;have H0:=Hd h0;have HP:=Hd hp;have HSH:=Hd hsh;have H5:=Hd h5;have HZ1:=Hd hz1;clear h h0 hp hsh h5 hz1;obtain⟨lv,bad_,badAt,big,bigAt,told,hqb,hb0,htl0⟩:=F.out.qs.blk;obtain rfl:bad_=0:=by simpa [Res.good] using hb0
 obtain rfl:s5.told=told:=htl0 _ s5 rfl;have c3:=(QB.cells hqb).2.2.2.1;have c7:=(QB.cells hqb).2.2.2.2.2.2.2.1;have c8:=(QB.cells hqb).2.2.2.2.2.2.2.2.1;have f7:=(QB.cells hqb).2.2.2.2.2.2.2.2.2 7;obtain⟨y0,y1,y2,y3,yf0,yf1,yf2,yf3⟩:=Blk.four (t:=70) F.out.fb;clear hqb hb0 htl0;by_cases hneg:nn<0
 ·have hnegI:decide (nn<0)=true:=decide_eq_true hneg
  obtain⟨m,hm⟩:∃m:Nat,nn = -((m:Int)+1):=⟨(-nn-1).toNat,by omega⟩;have hsh6:=HSH.out.tch F.out.tc (QS.off (r:=(.ok () s:Res Unit)) H0.out (by decide)) (QS.off (r:=(.ok () s:Res Unit)) H0.out (by decide)) (QS.off (r:=(.ok () s:Res Unit)) H0.out (by decide));obtain⟨fs,hfs,L,hL,⟨SA,SC,hsv⟩,hso,hsp⟩:=hsh6;rw[hsv]at hso c8;obtain⟨hP1,hP2⟩:=pallW_sh (en:=en) (ee:=ee) (zs:=zs) (xn:=xn) hm H5.out hfs hL;obtain⟨BAD,hBAD⟩:∃b,shBad L zs m=b:=⟨_,rfl⟩;rw[hBAD]at hP1 hP2;have hLl:L.length≤900000:=by have h1:L.length=s.sh.length:=(by rw[← hfs,← hL,List.length_map,List.length_map]);omega
  have HM:=Hd hm;have HSO:=Hd hso;have HSP:=Hd hsp;have HP1:=Hd hP1;have HP2:=Hd hP2;have HBAD:=Hd hBAD;have HW2:Hid (-nn=(m:Int)+1):=by unfold Hid;omega
  clear hm hfs hL hso hsp hP1 hP2 hBAD hsv;have hgr6:gr<w6.heap.size:=F.out.qs.lt;have C8:=Hd c8;go_upto_region 37 with fail
  go_cut [160] from 281 (fun bv wq=>bv = .bool BAD∧Hid (Below w6.heap.size w6 wq))
  case first =>
   by_cases hml:m<L.length
   ·obtain⟨p,hp⟩:∃p,L[m]?=some p:=⟨_,List.getElem?_eq_getElem hml⟩
    obtain⟨sq,rfl,-,hsq⟩:=own_some HSO.out (by omega);obtain⟨-,-,hpz,-⟩:=HSP.out p (List.mem_of_getElem? hp);have hBp:shBad L zs m = !(eqB p.2.sizes zs):=by unfold shBad;rw[hp]
    have hcp:=(HSO.out.cellAt (m*4+1) (by omega)).trans (qc_at hp).2.1;obtain⟨⟨PA,pc,hpe⟩,hpo⟩:=hpz;rw[hpe]at hpo hcp;have hrz:=F.out.sz.2;have hpl:=own_max hpo;have hzl2:=own_max hrz;have hpr:=Reads.of_own hpo;have hzr:=Reads.of_own hrz;have hlI:decide ((L.length:Int) < -nn)=false:=decide_eq_false (by have:=HW2.out;omega);have i0:(0:Int)≤(m:Int):=Int.natCast_nonneg _;have i1:(m:Int)<(L.length:Int):=by omega
    have hEQ:Hid (BAD = !(eqB p.2.sizes zs)):=by rw[← hBp];exact HBAD.out.symm
    have hsl:sq<w6.drew.heap.size:=hsq;have hfl:w.heap.size+1<w6.drew.heap.size:=Blk.lt F.out.fb;clear hp hpe hpo hrz hBp hsq;have hw4 : -nn-1=(m:Int):=by have:=HW2.out;omega
    go_quiet (first | (go_at_call 72;refine Calls.quiet_of (same_quiet PA FA p.2.sizes.length zs.length pc FC p.2.sizes zs (w6.drewN _) hpl hzl2 hpr hzr)))
    all_goals
     go_wp2_with fail
     go_meet
     case rel=>exact⟨by rw[hEQ.out],below_drewN (Below.refl _ _) _⟩
   ·have hBp:shBad L zs m=true:=by unfold shBad;rw[List.getElem?_eq_none (by omega)]
    obtain rfl:BAD=true:=by rw[← HBAD.out];exact hBp
    have hlI:decide ((L.length:Int) < -nn)=true:=decide_eq_true (by have:=HW2.out;omega);clear hBp
    go_quiet (fail)
    all_goals
     go_wp2_with fail
     go_meet
     case rel=>exact⟨rfl,below_drewN (Below.refl _ _) _⟩
  case rest =>
   obtain⟨rfl,hbq⟩:=hcut;have F:=Hd (F.out.tch hgl (Tch.of_below hbq.out _) (F.out.qs.below hbq.out));clear c3 c7 c8 f7 y0 y1 y2 y3 yf0 yf1 yf2 yf3
   cases BAD with
   | true =>
     have HPB:Hid (pfun en ee all s = .bad 4 xn):=by unfold Hid;rw[HP.out,HP1.out rfl];rfl
     have hwr:=qwrong_un (a:=()) (show Qok wc gr en ee s5 sv from F.out.qs) 4 xn (by decide);go_wp2_with fail;refine hwr.mono ?_;rintro e w8 ⟨⟨u,rfl⟩,hq8,t8⟩;have F:=Hd (F.out.tch hgl t8 (show QS w8 gr en ee sv (.bad 4 xn:Res Unit) from hq8));clear hwr hq8 t8;obtain⟨y0,y1,y2,y3,-⟩:=Blk.four (t:=70) F.out.fb;obtain⟨z0,z1,z2,z3,zf0,zf1,zf2,zf3⟩:=Blk.four (t:=70) F.out.rb;go_wp2_with fail;obtain⟨wf,hwf⟩:∃wf,(((w8.setCell ⟨w.heap.size,0,none⟩ (.slice OA out.length OC)).setCell ⟨w.heap.size,1,none⟩ (.slice FA zs.length FC)).setCell ⟨w.heap.size,2,none⟩ (.int .i64 oo)).setCell ⟨w.heap.size,3,none⟩ (.slice none 0 0)=wf:=⟨_,rfl⟩;obtain⟨hfb,hres⟩:=QFunR.early F.out hgl HPB.out ⟨_,_,_,rfl⟩ hwf;rw[hwf];obtain⟨k0,k1,k2,k3,-⟩:=Blk.four (t:=70) hfb
     exact bodyPost_ret (v := .agg #[.slice OA out.length OC,.slice FA zs.length FC,.int .i64 oo,.slice none 0 0]) (by simp[results,Tryz.results90,go_sem,k0,k1,k2,k3]) rfl hres
   | false =>
     obtain⟨p,hp,hpz,hpw⟩:=HP2.out rfl;obtain⟨-,-,-,L2,hL2,hlr⟩:=HSP.out p (List.mem_of_getElem? hp);obtain⟨⟨LA,LC,hle⟩,-⟩:=id hlr;have hml:m<L.length:=(List.getElem?_eq_some_iff.1 hp).1;have hso:=own_under HSO.out hbq.out;obtain⟨sq,rfl,-,hsq⟩:=own_some hso (by omega);have hcp:=(hso.cellAt (m*4+3) (by omega)).trans (qc_at hp).2.2.2;have hlr2:=hlr.tch (Tch.of_below hbq.out (fun _=>False)) (fun _ h=>h.elim) (fun _ h=>h.elim);rw[hle]at hcp hlr2;have c8:=(show wc.cell? ⟨gr,8,none⟩=w6.cell? ⟨gr,8,none⟩ from (bcell hbq.out).1 gr 8 hgr6).trans C8.out;obtain⟨y0,y1,y2,y3,yf0,yf1,yf2,yf3⟩:=Blk.four (t:=70) F.out.fb;have hw4 : -nn-1=(m:Int):=by have:=HW2.out;omega
     have i0:(0:Int)≤(m:Int):=Int.natCast_nonneg _;have i1:(m:Int)<(L.length:Int):=by omega
     have HH:=LnQ.shared F.out hgl hneg hpw hlr2 hL2;have HL2:=Hd hL2;have HPW:=Hd hpw;clear hp hpz hpw hL2 hlr hlr2 hso hle;go_upto_region 40 with fail
     repeat (first | (exact qfun_lines HH hgl H0.out hee HZ1.out (by omega) hzl HP.out HSH.out hshl H5.out) | go_step | dsimp only)
 ·have hnegI:decide (nn<0)=false:=decide_eq_false hneg
  have hw:wrap64 (s5.told+nn)=s5.told+nn:=by unfold wrap64;omega
  obtain⟨W7,hW7⟩:∃W7,w6.setCell ⟨gr,7,none⟩ (.int .i64 (s5.told+nn))=W7:=⟨_,rfl⟩;have hQ7:Qok W7 gr en ee { s5 with told:=s5.told+nn } sv:=by rw[← hW7];exact Qok.told (show Qok w6 gr en ee s5 sv from F.out.qs) _
  have T7:Tch w6 W7 (fun k=>k=gr):=by rw[← hW7];exact Tch.put (S:=fun k=>k=gr) (Tch.refl w6 _) (p:=⟨gr,7,none⟩) _ rfl
  have HQ7:=Hd hQ7;have HT7:=Hd T7;obtain⟨_,_,_,_,hqb7,-⟩:=HQ7.out;have d7:=(QB.cells hqb7).2.2.2.2.2.2.2.1;have e7:=(QB.cells hqb7).2.2.2.2.2.2.2.2.2 7;clear T7 hqb7 hQ7;by_cases hgt:4611686018427387904<s5.told+nn
  ·have hgI:decide (4611686018427387904<s5.told+nn)=true:=decide_eq_true hgt
   have HMF:Hid (min (s5.told+nn) far=4611686018427387904):=by show min (s5.told+nn) 4611686018427387904=_;omega
   obtain⟨W8,hW8⟩:∃W8,W7.setCell ⟨gr,7,none⟩ (.int .i64 4611686018427387904)=W8:=⟨_,rfl⟩;have hQ8:Qok W8 gr en ee { s5 with told:=4611686018427387904 } sv:=by rw[← hW8];exact Qok.told HQ7.out _
   have HT8:=Hd (show Tch w6 W8 (fun k=>k=gr) by rw[← hW8];exact Tch.put (S:=fun k=>k=gr) HT7.out (p:=⟨gr,7,none⟩) _ rfl);have hlg:=qlarge_un (r:=(.ok () { s5 with told:=4611686018427387904 }:Res Unit)) hQ8 true xn;rw[Res.bind_ok]at hlg;obtain⟨_,_,_,_,hqb8,-⟩:=id hQ8;have d8:=(QB.cells hqb8).2.2.2.2.2.2.2.1;have hgc:decide ((16384:Int)<4611686018427387904)=true:=rfl;clear hqb8;go_wp2_with fail;refine hlg.mono ?_;rintro e wl ⟨⟨vl,rfl⟩,hql,htl⟩;have HH:=LnQ.start (nn:=nn) (xn:=xn) (s5:=s5) (F.out.tch hgl (HT8.out.trans htl fun _ _ h=>h) hql) (by rw[HMF.out];rfl) (by omega) hl5;clear hlg hql htl hW7 hW8 d8 hgc d7 e7 c3 c7 c8 f7
   repeat (first | (exact qfun_lines HH hgl H0.out hee HZ1.out (by omega) hzl HP.out HSH.out hshl H5.out) | go_step | dsimp only)
  ·have hgI:decide (4611686018427387904<s5.told+nn)=false:=decide_eq_false hgt
   have HMF:Hid (min (s5.told+nn) far=s5.told+nn):=by show min (s5.told+nn) 4611686018427387904=_;omega
   have hlg:=qlarge_un (r:=(.ok () { s5 with told:=s5.told+nn }:Res Unit)) HQ7.out (decide (16384<s5.told+nn)) xn;rw[Res.bind_ok]at hlg;go_wp2_with fail;refine hlg.mono ?_;rintro e wl ⟨⟨vl,rfl⟩,hql,htl⟩;have HH:=LnQ.start (nn:=nn) (xn:=xn) (s5:=s5) (F.out.tch hgl (HT7.out.trans htl fun _ _ h=>h) hql) (by rw[HMF.out]) (by omega) hl5;clear hlg hql htl hW7 d7 e7 c3 c7 c8 f7
   repeat (first | (exact qfun_lines HH hgl H0.out hee HZ1.out (by omega) hzl HP.out HSH.out hshl H5.out) | go_step | dsimp only)
end Go.Proofs.YtjpkkkphhaajgaaGreatDoor.wcp
namespace Go.Proofs.YtjpkkkphhaajgaaGreatDoor.wcp
open Go RowKit ChangeShapes WideShapes ChangeAt Maps words scn
variable {w wl:World} {gr:Nat} {en ee:Int} {sv:Value}
set_option maxRecDepth 1000000 in
set_option maxHeartbeats 8000000 in
theorem qfun_nums {all:List Int}{s:Ps}{a xa:Int}{vs vz:Value}{out zs:List Int}{R:Res (List Int)}{B:Bool}(h:F2 w wl gr en ee sv vs vz 0 (.slice none 0 0) out zs (R.bind fun a s => .ok a (plarge B xa s)))(hgl:gr<w.heap.size)(h0:Qok w gr en ee s sv)(hee:ee≠0)
 (hz1:∀z∈zs,1≤z∧z≤4611686018427387904) (hzl:zs.length≤1000000) (ht0:0≤s.told) (ht1:s.told≤1000000)
 (hh1:∀e x,((R.bind fun a s => .ok a (plarge B xa s)).bind fun _ s=>pnum en ee 0 far s).bind (fun _ s=>pnum en ee (-far) far s) = .bad e x→pfun en ee all s = .bad e x)
 (hh2:∀nn s5,((R.bind fun a s => .ok a (plarge B xa s)).bind fun _ s=>pnum en ee 0 far s).bind (fun _ s=>pnum en ee (-far) far s) = .ok nn s5 →
  s5.sh=s.sh∧s5.told=s.told∧s5.l.length≤s.l.length ∧
  ∃ov s4,((R.bind fun a s => .ok a (plarge B xa s)).bind fun _ s=>pnum en ee 0 far s) = .ok ov s4 ∧
   pfun en ee all s=(pallW en ee zs nn s5).bind fun ls s => .ok ⟨out,zs,ov.1,ls⟩ (if a<0 then { s with sh:=s.sh ++ [(zs,ls)] } else s))
 (hsh:QSh w sv s.sh) (hshl:s.sh.length≤900000)
 {k1 k2 k3 k6 k7 k9 k10 k11 k12 k13 k14 k15 k16 k17 k18 k19 k20 k21 k22 k23 k24 k25 k26 k27 k28 k29 k30 k31 k32 k33 k34 k35 k36 k37 k38 k39 k40 k41 k42 k43 k44 k45 k46 k47 k48 k49 k50 k51 k52 k53 k54 k55 k56 k57 k58 k59 k60 k61 k62 k63 k64 k65 k66 k67 k68 k69 k70 k71 k72 k73 k74 k75 k76 k77 k78 k79 k80 k81 k82 k83 k84 k85 k86 k87 k88 k89 k90 k91 k92 k93 k94 k95 k96 k97 k98 k99 k100 k101 k102 k103 k104 k105 k106 k107 k108 k109 k110 k111 k112 k113 k114 k115 k116 k117 k118 k119 k120 k121 k122 k123 k124 k125 k126 k127 k128 k129 k130 k131 k132 k133 k134 k135 k136 k137 k138 k139 k140 k141 k142 k143 k144 k145 k146 k147 k148 k149 k150 k151 k152 k153 k154 k155 k156 k157 k158 k159 k160 k161 k162 k163 k164 k165 k166 k167 k168 k169 k170 k171 k172 k173 k174 k175 k176 k177 k178 k179 k180 k181 k182 k183 k184 k185 k186 k187 k188 k189 k190 k191 k192 k193 k194 k195 k196 k197 k198 k199 k200 k201 k202 k203 k204 k205 k206 k207 k208 k209 k210 k211 k212 k213 k214 k215 k216 k217 k218 k219 k220 k221 k222 k223 k224 k225 k226 k227 k228 k229 k230 k231 k232 k233 k234 k235 k236 k237 k238 k239 k240 k241 k242 k243 k244 k245 k246 k247 k248 k249 k250 k251 k252 k253 k254 k255 k256 k257 k258 k259 k260 k261 k262 k263 k264 k265 k266 k267 k268 k269 k270 k271 k272 k273 k274 k275 k276 k277 k278 k279 k280:Value} :
 Code.wp Tryz.prog (sfx 9 qbody) (bodyPost Tryz.prog Tryz.f90 fun e w'=>QFunR w gr en ee all s sv e w') ⟨#[.pointer (some ⟨gr,0,none⟩),k1,k2,k3,.pointer (some ⟨w.heap.size,0,none⟩),.pointer (some ⟨w.heap.size+1,0,none⟩),k6,k7,.bool (decide (a<0)),k9,k10,k11,k12,k13,k14,k15,k16,k17,k18,k19,k20,k21,k22,k23,k24,k25,k26,k27,k28,k29,k30,k31,k32,k33,k34,k35,k36,k37,k38,k39,k40,k41,k42,k43,k44,k45,k46,k47,k48,k49,k50,k51,k52,k53,k54,k55,k56,k57,k58,k59,k60,k61,k62,k63,k64,k65,k66,k67,k68,k69,k70,k71,k72,k73,k74,k75,k76,k77,k78,k79,k80,k81,k82,k83,k84,k85,k86,k87,k88,k89,k90,k91,k92,k93,k94,k95,k96,k97,k98,k99,k100,k101,k102,k103,k104,k105,k106,k107,k108,k109,k110,k111,k112,k113,k114,k115,k116,k117,k118,k119,k120,k121,k122,k123,k124,k125,k126,k127,k128,k129,k130,k131,k132,k133,k134,k135,k136,k137,k138,k139,k140,k141,k142,k143,k144,k145,k146,k147,k148,k149,k150,k151,k152,k153,k154,k155,k156,k157,k158,k159,k160,k161,k162,k163,k164,k165,k166,k167,k168,k169,k170,k171,k172,k173,k174,k175,k176,k177,k178,k179,k180,k181,k182,k183,k184,k185,k186,k187,k188,k189,k190,k191,k192,k193,k194,k195,k196,k197,k198,k199,k200,k201,k202,k203,k204,k205,k206,k207,k208,k209,k210,k211,k212,k213,k214,k215,k216,k217,k218,k219,k220,k221,k222,k223,k224,k225,k226,k227,k228,k229,k230,k231,k232,k233,k234,k235,k236,k237,k238,k239,k240,k241,k242,k243,k244,k245,k246,k247,k248,k249,k250,k251,k252,k253,k254,k255,k256,k257,k258,k259,k260,k261,k262,k263,k264,k265,k266,k267,k268,k269,k270,k271,k272,k273,k274,k275,k276,k277,k278,k279,k280],[]⟩ wl:=by
 conv=>arg 2;whnf
 obtain⟨OA,OC,rfl⟩:=h.sc.1;obtain⟨FA,FC,rfl⟩:=h.sz.1;have F:=Hd h;have H0:=Hd h0;have HSH:=Hd hsh;have HZ1:=Hd hz1;have HH1:=Hd hh1;have HH2:=Hd hh2;clear h h0 hsh hz1 hh1 hh2;have hn4:=qnum_un F.out.qs hee 0 4611686018427387904;go_wp2_with fail;refine hn4.mono ?_;rintro e w4 ⟨oo,xo,rfl,t4,hs4,hv4,hz4⟩;clear hn4;have F:=Hd (F.out.tch hgl t4 hs4);obtain⟨y0,y1,y2,y3,yf0,yf1,yf2,yf3⟩:=Blk.four (t:=70) F.out.fb;have HV4:=Hd hv4;clear t4 hs4 hv4 hz4;have F:=Hd (F.out.oth hgl oo);obtain⟨w5,hw5⟩:∃w5,w4.setCell ⟨w.heap.size+1,2,none⟩ (.int .i64 oo)=w5:=⟨_,rfl⟩;rw[hw5]at F;have hn6:=qnum_un F.out.qs hee (-4611686018427387904) 4611686018427387904;go_wp2_with fail;refine hn6.mono ?_;rintro e w6 ⟨nn,xn,rfl,t6,hs6,hv6,hz6⟩;clear hn6 hw5 y0 y1 y2 y3 yf0 yf1 yf2 yf3;have F:=Hd (F.out.tch hgl t6 hs6);have hnr:=NumU.range hv6 hz6 (by omega) (by omega);have HNR:=Hd hnr;obtain⟨R5,hR5⟩:∃R5,(((R.bind fun a s => .ok a (plarge B xa s)).bind fun _ s=>pnum en ee 0 far s).bind fun _ s=>pnum en ee (-far) far s)=R5:=⟨_,rfl⟩;rw[show (((R.bind fun a s => .ok a (plarge B xa s)).bind fun _ s=>pnum en ee 0 4611686018427387904 s).bind fun _ s=>pnum en ee (-4611686018427387904) 4611686018427387904 s)=R5 from hR5]at F hv6;rw[hR5]at HH1 HH2;have HV6:=Hd hv6;clear t6 hs6 hv6 hz6 hR5 hnr
 cases R5 with
 | bad er at_ =>
   have HPB:=Hd (HH1.out er at_ rfl);obtain⟨lv,bad_,badAt,big,bigAt,told,hqb,hb0,-⟩:=F.out.qs.blk
   have hbe:(bad_ != 0)=true:=by
    have:¬ bad_=0:=of_decide_eq_false (by rw[hb0];rfl);simp[this]
   have c3:=(QB.cells hqb).2.2.2.1;clear hqb hb0;obtain⟨y0,y1,y2,y3,-⟩:=Blk.four (t:=70) F.out.fb;obtain⟨z0,z1,z2,z3,zf0,zf1,zf2,zf3⟩:=Blk.four (t:=70) F.out.rb;go_wp2_with fail;obtain⟨wf,hwf⟩:∃wf,(((w6.setCell ⟨w.heap.size,0,none⟩ (.slice OA out.length OC)).setCell ⟨w.heap.size,1,none⟩ (.slice FA zs.length FC)).setCell ⟨w.heap.size,2,none⟩ (.int .i64 oo)).setCell ⟨w.heap.size,3,none⟩ (.slice none 0 0)=wf:=⟨_,rfl⟩;obtain⟨hfb,hres⟩:=QFunR.early F.out hgl HPB.out ⟨_,_,_,rfl⟩ hwf;rw[hwf];obtain⟨k0,k1,k2,k3,-⟩:=Blk.four (t:=70) hfb
   exact bodyPost_ret (v := .agg #[.slice OA out.length OC,.slice FA zs.length FC,.int .i64 oo,.slice none 0 0]) (by simp[results,Tryz.results90,go_sem,k0,k1,k2,k3]) rfl hres
 | ok nv s5 =>
   obtain⟨hnn,hxx⟩:=HV6.out nv s5 rfl;obtain⟨nv1,nv2⟩:=nv;dsimp only at hnn hxx;subst hnn hxx;obtain⟨hsh5,htold5,hlen5,ov,s4,hR4,hpf⟩:=HH2.out _ s5 rfl;obtain⟨hoo,-⟩:=HV4.out ov s4 hR4;rw[← hoo]at hpf;have hrg:=HNR.out;have hl5:s5.l.length≤1000000:=by have:=(Qok.left H0.out).1;omega
   have htb:0≤s5.told∧s5.told≤1000000:=by omega
   have HPF:=Hd hpf;have HS5:=Hd hsh5;obtain⟨lv,bad_,badAt,big,bigAt,told,hqb,hb0,-⟩:=F.out.qs.blk;obtain rfl:bad_=0:=by simpa [Res.good] using hb0
   have c3:=(QB.cells hqb).2.2.2.1;clear hqb hb0 hpf hsh5 htold5 hlen5 hR4 hoo
   go_upto_if 133 with fail
   repeat (first | (exact qfun_from F.out hgl H0.out hee HZ1.out hrg hzl htb hl5 HPF.out HSH.out hshl HS5.out) | go_step)
end Go.Proofs.YtjpkkkphhaajgaaGreatDoor.wcp
namespace Go.Proofs.YtjpkkkphhaajgaaGreatDoor.wcp
open Go RowKit ChangeShapes WideShapes ChangeAt Maps words scn
variable {w wr:World} {gr:Nat} {en ee:Int} {sv:Value}
set_option maxRecDepth 1000000 in
set_option maxHeartbeats 8000000 in
theorem qfun_count {all:List Int}{s:Ps}{a xa:Int}{vs vz:Value}{out:List Int}{R:Res (List Int)}{r1:Res (Int × Int)}{k:Nat}(h:F2 w wr gr en ee sv vs vz 0 (.slice none 0 0) out (psz all out) R)(hgl:gr<w.heap.size)(h0:Qok w gr en ee s sv)(hee:ee≠0)
 (hz1:∀z∈psz all out,1≤z∧z≤4611686018427387904) (hol:out.length≤1000000) (ht0:0≤s.told) (ht1:s.told≤1000000)
 (hE1:pnum en ee (-4611686018427387904) 4611686018427387904 s=r1) (hKV:∀v s',r1 = .ok v s'→v.1.natAbs=k) (hV1:∀v s',r1 = .ok v s'→a=v.1∧xa=v.2) (hR:(r1.bind fun _ s=>pscope en ee all.length k [] s)=R) (hout:∀out' s',R = .ok out' s'→out'=out)
 (hkb:k≤4611686018427387904) (hsh:QSh w sv s.sh) (hshl:s.sh.length≤900000)
 {k1 k2 k3 k9 k10 k11 k12 k13 k14 k15 k16 k17 k18 k19 k20 k21 k22 k23 k24 k25 k26 k27 k28 k29 k30 k31 k32 k33 k34 k35 k36 k37 k38 k39 k40 k41 k42 k43 k44 k45 k46 k47 k48 k49 k50 k51 k52 k53 k54 k55 k56 k57 k58 k59 k60 k61 k62 k63 k64 k65 k66 k67 k68 k69 k70 k71 k72 k73 k74 k75 k76 k77 k78 k79 k80 k81 k82 k83 k84 k85 k86 k87 k88 k89 k90 k91 k92 k93 k94 k95 k96 k97 k98 k99 k100 k101 k102 k103 k104 k105 k106 k107 k108 k109 k110 k111 k112 k113 k114 k115 k116 k117 k118 k119 k120 k121 k122 k123 k124 k125 k126 k127 k128 k129 k130 k131 k132 k133 k134 k135 k136 k137 k138 k139 k140 k141 k142 k143 k144 k145 k146 k147 k148 k149 k150 k151 k152 k153 k154 k155 k156 k157 k158 k159 k160 k161 k162 k163 k164 k165 k166 k167 k168 k169 k170 k171 k172 k173 k174 k175 k176 k177 k178 k179 k180 k181 k182 k183 k184 k185 k186 k187 k188 k189 k190 k191 k192 k193 k194 k195 k196 k197 k198 k199 k200 k201 k202 k203 k204 k205 k206 k207 k208 k209 k210 k211 k212 k213 k214 k215 k216 k217 k218 k219 k220 k221 k222 k223 k224 k225 k226 k227 k228 k229 k230 k231 k232 k233 k234 k235 k236 k237 k238 k239 k240 k241 k242 k243 k244 k245 k246 k247 k248 k249 k250 k251 k252 k253 k254 k255 k256 k257 k258 k259 k260 k261 k262 k263 k264 k265 k266 k267 k268 k269 k270 k271 k272 k273 k274 k275 k276 k277 k278 k279 k280:Value} :
 Code.wp Tryz.prog (sfx 6 qbody) (bodyPost Tryz.prog Tryz.f90 fun e w'=>QFunR w gr en ee all s sv e w') ⟨#[.pointer (some ⟨gr,0,none⟩),k1,k2,k3,.pointer (some ⟨w.heap.size,0,none⟩),.pointer (some ⟨w.heap.size+1,0,none⟩),.int .i64 (k:Int),.int .i64 xa,.bool (decide (a<0)),k9,k10,k11,k12,k13,k14,k15,k16,k17,k18,k19,k20,k21,k22,k23,k24,k25,k26,k27,k28,k29,k30,k31,k32,k33,k34,k35,k36,k37,k38,k39,k40,k41,k42,k43,k44,k45,k46,k47,k48,k49,k50,k51,k52,k53,k54,k55,k56,k57,k58,k59,k60,k61,k62,k63,k64,k65,k66,k67,k68,k69,k70,k71,k72,k73,k74,k75,k76,k77,k78,k79,k80,k81,k82,k83,k84,k85,k86,k87,k88,k89,k90,k91,k92,k93,k94,k95,k96,k97,k98,k99,k100,k101,k102,k103,k104,k105,k106,k107,k108,k109,k110,k111,k112,k113,k114,k115,k116,k117,k118,k119,k120,k121,k122,k123,k124,k125,k126,k127,k128,k129,k130,k131,k132,k133,k134,k135,k136,k137,k138,k139,k140,k141,k142,k143,k144,k145,k146,k147,k148,k149,k150,k151,k152,k153,k154,k155,k156,k157,k158,k159,k160,k161,k162,k163,k164,k165,k166,k167,k168,k169,k170,k171,k172,k173,k174,k175,k176,k177,k178,k179,k180,k181,k182,k183,k184,k185,k186,k187,k188,k189,k190,k191,k192,k193,k194,k195,k196,k197,k198,k199,k200,k201,k202,k203,k204,k205,k206,k207,k208,k209,k210,k211,k212,k213,k214,k215,k216,k217,k218,k219,k220,k221,k222,k223,k224,k225,k226,k227,k228,k229,k230,k231,k232,k233,k234,k235,k236,k237,k238,k239,k240,k241,k242,k243,k244,k245,k246,k247,k248,k249,k250,k251,k252,k253,k254,k255,k256,k257,k258,k259,k260,k261,k262,k263,k264,k265,k266,k267,k268,k269,k270,k271,k272,k273,k274,k275,k276,k277,k278,k279,k280],[]⟩ wr:=by
 conv=>arg 2;whnf
 obtain⟨B,hB⟩:∃B,(decide ((k:Int)>6) || great (psz all out))=B:=⟨_,rfl⟩;have HHD:=Hd (pfun_head hE1 hKV hV1 hR hout hB);have hlg:=qlarge_un h.qs B xa;obtain⟨zs,hzs⟩:∃zs,psz all out=zs:=⟨_,rfl⟩;have hpl:zs.length=out.length:=by rw[← hzs];simp[psz]
 have hzl:zs.length≤1000000:=by omega
 rw[hzs]at h hz1 hB HHD;obtain⟨OA,OC,rfl⟩:=h.sc.1;obtain⟨FA,FC,rfl⟩:=h.sz.1;have F:=Hd h;have H0:=Hd h0;have HSH:=Hd hsh;have HZ1:=Hd hz1;have HB:=Hd hB;have hrow:=Reads.of_own h.sz.2;obtain⟨y0,y1,y2,y3,-⟩:=Blk.four (t:=70) h.fb;clear h h0 hsh hz1 hE1 hKV hV1 hR hout hB hzs hpl hol;have HLG:=Hd hlg;clear hlg;go_wp2_with fail
 go_loopw [14,97] (fun cv jv wq => ∃ (j:Nat) (p:Int),jv = .int .i64 j∧cv = .int .i64 p∧j≤zs.length∧capped (zs.take j) 1=p∧1≤p∧p≤4097∧wr=wq) (fun _ jv _=>zs.length-(intOf jv).toNat)
 case atStart=>exact⟨0,1,rfl,rfl,Nat.zero_le _,rfl,by omega,by omega,rfl⟩
 case round =>
  obtain⟨j,p,rfl,rfl,hj,hp,hp1,hp2,rfl⟩:=hrel;by_cases hjl:j<zs.length
  ·obtain⟨ad,z,hA1,_,hz,hc⟩:=hrow.num hjl
   subst hA1;have hjI:decide ((j:Int)<(zs.length:Int))=true:=decide_eq_true (by omega);have hz1:=HZ1.out z (List.mem_of_getElem? hz);have htk:zs.take (j+1)=zs.take j ++ [z]:=by rw[List.take_add_one,hz];rfl
   have hcs:=capped_snoc (k:=z) hp;rw[← htk]at hcs;have HC:=Hd hcs;clear hp htk hcs hz;by_cases hx4:4096<z
   ·have hxI:decide (4096<z)=true:=decide_eq_true hx4
    have hmz:min z 4097=4097:=by omega
    by_cases hg:4096<p*4097
    ·have hd:decide (4096<p*4097)=true:=decide_eq_true hg
     go_wp2_with fail;go_roundw
     case rel=>exact⟨j+1,4097,by go_num,rfl,by omega,by rw[HC.out,hmz];omega,by omega,by omega,by first | rfl | trivial⟩
     case measure=>simp[intOf];omega
    ·have hd:decide (4096<p*4097)=false:=decide_eq_false hg
     go_wp2_with fail;go_roundw
     case rel=>exact⟨j+1,p*4097,by go_num,by first | rfl | go_num,by omega,by rw[HC.out,hmz];omega,by omega,by omega,by first | rfl | trivial⟩
     case measure=>simp[intOf];omega
   ·have hxI:decide (4096<z)=false:=decide_eq_false hx4
    have hm1:1≤z∧z≤4096:=by omega
    have hb1:1*1≤p*z:=Int.mul_le_mul hp1 hm1.1 (by omega) (by omega);have hb2:p*z≤4097*4096:=Int.mul_le_mul hp2 hm1.2 (by omega) (by omega);have hmz:min z 4097=z:=by omega
    by_cases hg:4096<p*z
    ·have hd:decide (4096<p*z)=true:=decide_eq_true hg
     go_wp2_with fail;go_roundw
     case rel=>exact⟨j+1,4097,by go_num,rfl,by omega,by rw[HC.out,hmz];omega,by omega,by omega,by first | rfl | trivial⟩
     case measure=>simp[intOf];omega
    ·have hd:decide (4096<p*z)=false:=decide_eq_false hg
     go_wp2_with fail;go_roundw
     case rel=>exact⟨j+1,p*z,by go_num,by first | rfl | go_num,by omega,by rw[HC.out,hmz];omega,by omega,by omega,by first | rfl | trivial⟩
     case measure=>simp[intOf];omega
  ·obtain rfl:j=zs.length:=by omega
   have hjI:decide ((zs.length:Int)<(zs.length:Int))=false:=decide_eq_false (by omega)
   have HCG:Hid (great zs=decide (4096<p)):=by
    rw[List.take_of_length_le (by omega)]at hp;rw[Hid,great_is,hp]
   clear hp hrow y0 y1 y2 y3;have hlg:=HLG.out;by_cases hk6:6<k
   ·have hkI:decide ((6:Int)<(k:Int))=true:=decide_eq_true (by omega)
    obtain rfl:B=true:=by rw[← HB.out,decide_eq_true (show (k:Int)>6 by omega)];rfl
    go_wp2_with fail;refine hlg.mono ?_;rintro e wl ⟨⟨vl,rfl⟩,hrl,htl⟩
    repeat (first | (exact qfun_nums (F.out.tch hgl htl hrl) hgl H0.out hee HZ1.out hzl ht0 ht1 HHD.out.1 HHD.out.2 HSH.out hshl) | go_step | dsimp only)
   ·have hkI:decide ((6:Int)<(k:Int))=false:=decide_eq_false (by omega)
    have hgB:decide (4096<p)=B:=by rw[← HB.out,decide_eq_false (show ¬ (k:Int)>6 by omega),HCG.out];rfl
    go_wp2_with fail;refine hlg.mono ?_;rintro e wl ⟨⟨vl,rfl⟩,hrl,htl⟩
    repeat (first | (exact qfun_nums (F.out.tch hgl htl hrl) hgl H0.out hee HZ1.out hzl ht0 ht1 HHD.out.1 HHD.out.2 HSH.out hshl) | go_step | dsimp only)
end Go.Proofs.YtjpkkkphhaajgaaGreatDoor.wcp
namespace Go.Proofs.YtjpkkkphhaajgaaGreatDoor.wcp
open Go RowKit ChangeShapes WideShapes ChangeAt Maps words scn
variable {w w1:World} {gr:Nat} {en ee:Int} {sv:Value}
set_option maxRecDepth 1000000 in
set_option maxHeartbeats 8000000 in
theorem qfun_scope {all:List Int}{A:Option Addr}{c0:Nat}{s:Ps}{a xa:Int}{r1:Res (Int × Int)}{k:Nat}(hs0:ScQ w w1 gr en ee all k r1 sv (.slice none 0 0) (.slice none 0 0) [] 0)(hgl:gr<w.heap.size)(h0:Qok w gr en ee s sv)(hee:ee≠0)
 (hal:w.ownsRow 0 2 1 (.slice A all.length c0) all.length (nums all)) (ha1:∀y∈all,1≤y∧y≤4611686018427387904) (hall:all.length≤1000000)
 (ht0:0≤s.told) (ht1:s.told≤1000000)
 (hE1:pnum en ee (-4611686018427387904) 4611686018427387904 s=r1) (hKV:∀v s',r1 = .ok v s'→v.1.natAbs=k) (hV1:∀v s',r1 = .ok v s'→a=v.1∧xa=v.2)
 (hkb:k≤4611686018427387904) (hsh:QSh w sv s.sh) (hshl:s.sh.length≤900000)
 {k2 k3 k9 k10 k11 k12 k13 k14 k15 k16 k17 k18 k19 k20 k21 k22 k23 k24 k25 k26 k27 k28 k29 k30 k31 k32 k33 k34 k35 k36 k37 k38 k39 k40 k41 k42 k43 k44 k45 k46 k47 k48 k49 k50 k51 k52 k53 k54 k55 k56 k57 k58 k59 k60 k61 k62 k63 k64 k65 k66 k67 k68 k69 k70 k71 k72 k73 k74 k75 k76 k77 k78 k79 k80 k81 k82 k83 k84 k85 k86 k87 k88 k89 k90 k91 k92 k93 k94 k95 k96 k97 k98 k99 k100 k101 k102 k103 k104 k105 k106 k107 k108 k109 k110 k111 k112 k113 k114 k115 k116 k117 k118 k119 k120 k121 k122 k123 k124 k125 k126 k127 k128 k129 k130 k131 k132 k133 k134 k135 k136 k137 k138 k139 k140 k141 k142 k143 k144 k145 k146 k147 k148 k149 k150 k151 k152 k153 k154 k155 k156 k157 k158 k159 k160 k161 k162 k163 k164 k165 k166 k167 k168 k169 k170 k171 k172 k173 k174 k175 k176 k177 k178 k179 k180 k181 k182 k183 k184 k185 k186 k187 k188 k189 k190 k191 k192 k193 k194 k195 k196 k197 k198 k199 k200 k201 k202 k203 k204 k205 k206 k207 k208 k209 k210 k211 k212 k213 k214 k215 k216 k217 k218 k219 k220 k221 k222 k223 k224 k225 k226 k227 k228 k229 k230 k231 k232 k233 k234 k235 k236 k237 k238 k239 k240 k241 k242 k243 k244 k245 k246 k247 k248 k249 k250 k251 k252 k253 k254 k255 k256 k257 k258 k259 k260 k261 k262 k263 k264 k265 k266 k267 k268 k269 k270 k271 k272 k273 k274 k275 k276 k277 k278 k279 k280:Value} :
 Code.wp Tryz.prog (sfx 5 qbody) (bodyPost Tryz.prog Tryz.f90 fun e w'=>QFunR w gr en ee all s sv e w') ⟨#[.pointer (some ⟨gr,0,none⟩),.slice A all.length c0,k2,k3,.pointer (some ⟨w.heap.size,0,none⟩),.pointer (some ⟨w.heap.size+1,0,none⟩),.int .i64 (k:Int),.int .i64 xa,.bool (decide (a<0)),k9,k10,k11,k12,k13,k14,k15,k16,k17,k18,k19,k20,k21,k22,k23,k24,k25,k26,k27,k28,k29,k30,k31,k32,k33,k34,k35,k36,k37,k38,k39,k40,k41,k42,k43,k44,k45,k46,k47,k48,k49,k50,k51,k52,k53,k54,k55,k56,k57,k58,k59,k60,k61,k62,k63,k64,k65,k66,k67,k68,k69,k70,k71,k72,k73,k74,k75,k76,k77,k78,k79,k80,k81,k82,k83,k84,k85,k86,k87,k88,k89,k90,k91,k92,k93,k94,k95,k96,k97,k98,k99,k100,k101,k102,k103,k104,k105,k106,k107,k108,k109,k110,k111,k112,k113,k114,k115,k116,k117,k118,k119,k120,k121,k122,k123,k124,k125,k126,k127,k128,k129,k130,k131,k132,k133,k134,k135,k136,k137,k138,k139,k140,k141,k142,k143,k144,k145,k146,k147,k148,k149,k150,k151,k152,k153,k154,k155,k156,k157,k158,k159,k160,k161,k162,k163,k164,k165,k166,k167,k168,k169,k170,k171,k172,k173,k174,k175,k176,k177,k178,k179,k180,k181,k182,k183,k184,k185,k186,k187,k188,k189,k190,k191,k192,k193,k194,k195,k196,k197,k198,k199,k200,k201,k202,k203,k204,k205,k206,k207,k208,k209,k210,k211,k212,k213,k214,k215,k216,k217,k218,k219,k220,k221,k222,k223,k224,k225,k226,k227,k228,k229,k230,k231,k232,k233,k234,k235,k236,k237,k238,k239,k240,k241,k242,k243,k244,k245,k246,k247,k248,k249,k250,k251,k252,k253,k254,k255,k256,k257,k258,k259,k260,k261,k262,k263,k264,k265,k266,k267,k268,k269,k270,k271,k272,k273,k274,k275,k276,k277,k278,k279,k280],[]⟩ w1:=by
 conv=>arg 2;whnf
 obtain⟨i6,h60,h61,h62,h63⟩:=info_parts info64;have HS0:=Hd hs0;have HH:=Hd h0;have HSH:=Hd hsh;have HAL:=Hd hal;have HE1:=Hd hE1;have HKV:=Hd hKV;have HV1:=Hd hV1;clear hs0 h0 hsh hal hE1 hKV hV1;go_wp2_with fail
 go_loopw [9] (fun iv wr => ∃ (i:Nat) (OA:Option Addr) (OC:Nat) (FA:Option Addr) (FC:Nat) (out:List Int),iv = .int .i64 i∧Hid (ScQ w wr gr en ee all k r1 sv (.slice OA out.length OC) (.slice FA out.length FC) out i)) (fun iv _=>k-(intOf iv).toNat)
 case atStart=>exact⟨0,none,0,none,0,[],rfl,HS0⟩
 case round =>
  clear HS0;obtain⟨i,OA,OC,FA,FC,out,rfl,hsc⟩:=hrel;by_cases hlt:i<k
  ·have hltI:decide ((i:Int)<(k:Int))=true:=decide_eq_true (by omega)
   obtain⟨R,hR⟩:∃R,(r1.bind fun _ s=>pscope en ee all.length i [] s)=R:=⟨_,rfl⟩;obtain⟨hf2,hlen,hle,hran,hok,hbad⟩:=hsc.out;rw[hR]at hf2 hok hbad
   cases R with
   |bad er x=>exact absurd (hbad er x rfl) (by omega)
   | ok out' s2 =>
     obtain⟨rfl,hll⟩:=hok out' s2 rfl;have hnum:=qnum_un hf2.qs hee 0 ((all.length:Int)-1);obtain⟨lv,bad_,badAt,big,bigAt,told,hqb,hb0,-⟩:=hf2.qs.blk;obtain rfl:bad_=0:=by simpa [Res.good] using hb0
     have c3:=(QB.cells hqb).2.2.2.1;have F:=Hd hf2;have HR:=Hd hR;have HRAN:=Hd hran;have HLEN:=Hd hlen;have hol:out'.length≤1000000:=by omega
     clear hsc hf2 hok hbad hR hb0 hqb hran hlen;go_wp2_with fail;refine hnum.mono ?_;rintro e w3 ⟨v,x,rfl,t3,hs3,hv3,hz3⟩;clear hnum c3;rw[Res.bind_ok]at hs3 hv3 hz3;have F:=Hd (F.out.tch hgl t3 hs3)
     have HSN:Hid ((r1.bind fun _ s=>pscope en ee all.length (i+1) [] s)=pscope1 en ee all.length out' s2):=by
      unfold Hid;have:=HR.out
      cases r1 with
      |bad e x=>cases this
      |ok u s=>rw[Res.bind_ok]at this ⊢;rw[pscope_snoc,this,Res.bind_ok]
     cases hpn:pnum en ee 0 ((all.length:Int)-1) s2 with
     | bad er at_ =>
       rw[hpn]at F;have HPB:Hid (pfun en ee all s = .bad er at_):=pfun_scope_bad HE1.out (HKV.out) (by rw[HSN.out];unfold pscope1;rw[hpn];rfl) (show i+1≤k by omega);obtain⟨lv,bad_,badAt,big,bigAt,told,hqb,hb0,-⟩:=F.out.qs.blk
       have hbe:(bad_ != 0)=true:=by
        have:¬ bad_=0:=of_decide_eq_false (by rw[hb0];rfl);simp[this]
       have c3:=(QB.cells hqb).2.2.2.1;clear hqb hb0 hpn t3 hs3 hv3 hz3;obtain⟨y0,y1,y2,y3,-⟩:=Blk.four (t:=70) F.out.fb;obtain⟨z0,z1,z2,z3,zf0,zf1,zf2,zf3⟩:=Blk.four (t:=70) F.out.rb;go_wp2_with fail;obtain⟨wf,hwf⟩:∃wf,(((w3.setCell ⟨w.heap.size,0,none⟩ (.slice OA out'.length OC)).setCell ⟨w.heap.size,1,none⟩ (.slice FA out'.length FC)).setCell ⟨w.heap.size,2,none⟩ (.int .i64 0)).setCell ⟨w.heap.size,3,none⟩ (.slice none 0 0)=wf:=⟨_,rfl⟩;obtain⟨hfb,hres⟩:=QFunR.early F.out hgl HPB.out ⟨_,_,_,rfl⟩ hwf;rw[hwf];obtain⟨k0,k1,k2,k3,-⟩:=Blk.four (t:=70) hfb
       exact bodyPost_ret (v := .agg #[.slice OA out'.length OC,.slice FA out'.length FC,.int .i64 0,.slice none 0 0]) (by simp[results,Tryz.results90,go_sem,k0,k1,k2,k3]) rfl hres
     | ok vx s3 =>
       rw[hpn]at F;obtain⟨hv0,hx0⟩:=hv3 vx s3 hpn;obtain⟨p1,p2,-,-,-,p6⟩:=pnum_ok hpn;rw[← hv0]at p1 p2;have HPN:Hid (pnum en ee 0 ((all.length:Int)-1) s2 = .ok (v,x) s3):=by rw[hv0,hx0];exact hpn
       obtain⟨lv,bad_,badAt,big,bigAt,told,hqb,hb0,-⟩:=F.out.qs.blk;obtain rfl:bad_=0:=by simpa [Res.good] using hb0
       have c3:=(QB.cells hqb).2.2.2.1;obtain⟨y0,y1,y2,y3,yf0,yf1,-⟩:=Blk.four (t:=70) F.out.fb;have H6:Hid (s3.l.length+1=s2.l.length):=p6;have hrow:=Reads.of_own F.out.sc.2;clear hqb hb0 hpn t3 hs3 hv3 hz3 hv0 hx0 p6;go_wp2_with fail
       go_loopw [67] (fun jv wq => ∃j:Nat,jv = .int .i64 j∧j≤out'.length∧w3=wq∧v∉out'.take j) (fun jv _=>out'.length-(intOf jv).toNat)
       case atStart=>exact⟨0,rfl,Nat.zero_le _,rfl,by simp⟩
       case round =>
        obtain⟨j,rfl,hj,rfl,hnin⟩:=hrel;have HJ:=Hd hnin;by_cases hjl:j<out'.length
        ·obtain⟨ad,u,rfl,_,hu,hc⟩:=hrow.num hjl
         have hjI:decide ((j:Int)<(out'.length:Int))=true:=decide_eq_true (by omega);by_cases huv:u=v
         ·subst huv
          have HPB:Hid (pfun en ee all s = .bad 4 x):=pfun_scope_bad HE1.out (HKV.out) (by rw[HSN.out];unfold pscope1;rw[HPN.out,Res.bind_ok,if_pos (List.mem_of_getElem? hu)]) (show i+1≤k by omega);have hwr:=qwrong_un (a:=()) (show Qok w3 gr en ee s3 sv from F.out.qs) 4 x (by decide);clear hnin hu;go_wp2_with fail;refine hwr.mono ?_;rintro e w4 ⟨⟨u4,rfl⟩,hq4,t4⟩;clear hwr c3 y0 y1 y2 y3 yf0 yf1 hc;have F:=Hd (F.out.tch hgl t4 (show QS w4 gr en ee sv (.bad 4 x:Res Unit) from hq4));clear hq4 t4;obtain⟨y0,y1,y2,y3,-⟩:=Blk.four (t:=70) F.out.fb;obtain⟨z0,z1,z2,z3,zf0,zf1,zf2,zf3⟩:=Blk.four (t:=70) F.out.rb;go_wp2_with fail;obtain⟨wf,hwf⟩:∃wf,(((w4.setCell ⟨w.heap.size,0,none⟩ (.slice (some ad) out'.length OC)).setCell ⟨w.heap.size,1,none⟩ (.slice FA out'.length FC)).setCell ⟨w.heap.size,2,none⟩ (.int .i64 0)).setCell ⟨w.heap.size,3,none⟩ (.slice none 0 0)=wf:=⟨_,rfl⟩;obtain⟨hfb,hres⟩:=QFunR.early F.out hgl HPB.out ⟨_,_,_,rfl⟩ hwf;rw[hwf];obtain⟨k0,k1,k2,k3,-⟩:=Blk.four (t:=70) hfb;exact bodyPost_ret (v := .agg #[.slice (some ad) out'.length OC,.slice FA out'.length FC,.int .i64 0,.slice none 0 0]) (by simp[results,Tryz.results90,go_sem,k0,k1,k2,k3]) rfl hres
         ·have huvb:(u==v)=false:=by simp[huv]
          have HU:=Hd hu;have HUV:=Hd huv;clear hnin hu huv;go_wp2_with fail;go_roundw
          case measure=>simp[intOf];omega
          case rel =>
           refine⟨j+1,by go_num,by omega,by first | rfl | trivial,fun hm=>?_⟩;rw[List.take_add_one,HU.out]at hm;rcases List.mem_append.1 hm with hm | hm
           ·exact HJ.out hm
           ·simp at hm;exact HUV.out hm.symm
        ·obtain rfl:j=out'.length:=by omega
         have hjI:decide ((out'.length:Int)<(out'.length:Int))=false:=decide_eq_false (by omega);have HNIN:Hid (v∉out'):=by have:=HJ.out;rw[List.take_of_length_le (Nat.le_refl _)]at this;exact this
         have hA1:=F.out.sc.2.alloc (.cells #[.int .i64 v] 2);have hr1:Reads (w3.alloc (.cells #[.int .i64 v] 2)) (w3.alloc (.cells #[.int .i64 v] 2)).heap.size 1 (some ⟨w3.heap.size,0,none⟩) 1 (nums [v]):=reads_block (t:=2) (heap_alloc_new _ _) rfl;have hsz:w.heap.size+2≤(w3.alloc (.cells #[.int .i64 v] 2)).heap.size:=by have:=F.out.size;simp;omega
         clear hnin
         go_upto_region 20 with (first
          |(at_builtin;refine wpList_append_any _ rfl (.tmp 80) (.tmp 82) _ rfl (w.heap.size+2) 2 i6 _ 1 8 Tryz.underlying46 h60 h61 h62 h63 rfl (by omega) (.slice OA out'.length OC) out'.length _ rfl hA1 (w3.alloc (.cells #[.int .i64 v] 2)).heap.size (some ⟨w3.heap.size,0,none⟩) 1 1 (nums [v]) rfl hr1 nums_one (by simp only[maxLen];omega) (by omega) hsz ?_;intro v6 w6 hown6 hg6 hat6;obtain⟨A6,c6,rfl⟩:=own_shape hown6;have hm6:=F.out.mid (bone w3 (.cells #[.int .i64 v] 2)) hg6 (fun q hq=>(own_in F.out.sc.2 hq).1);have HM6:=Hd hm6;have d60:=(Blk.four (t:=70) hm6).1;have d6f:=hm6.frozen 0;have F7:=Hd (F.out.left hgl (bone w3 (.cells #[.int .i64 v] 2)) hown6 hg6 hat6);clear hown6 hg6 hat6 hm6 hA1 hr1)
          |fail)
         clear hsz y0 y1 y2 y3 yf0 yf1 hrow c3;obtain⟨w7,hw7⟩:∃w7,w6.setCell ⟨w.heap.size+1,0,none⟩ (.slice A6 (out'.length+1) c6)=w7:=⟨_,rfl⟩;rw[hw7]at F7 ⊢;clear hw7 d60 d6f;obtain⟨m,rfl⟩:∃m:Nat,v=(m:Int):=⟨v.toNat,by omega⟩;have hml:m<all.length:=by omega
         have hal7:=own_off HAL.out F7.out.tc (QS.off (r:=(.ok () s:Res Unit)) HH.out (by decide));obtain⟨ad2,y,hA2,hbl2,hy,hc2⟩:=(Reads.of_own hal7).num hml;subst hA2;have hA8:=(F7.out.sz.2.alloc (.cells #[.int .i64 y] 2)).drew;have hr8:Reads (w7.alloc (.cells #[.int .i64 y] 2)).drew (w7.alloc (.cells #[.int .i64 y] 2)).heap.size 1 (some ⟨w7.heap.size,0,none⟩) 1 (nums [y]):=reads_block (t:=2) (heap_alloc_new _ _) rfl;obtain⟨y0,y1,y2,y3,yf0,yf1,-⟩:=Blk.four (t:=70) F7.out.fb;have Y1:=(Blk.four (t:=70) (F7.out.fb.alloc (.cells #[.int .i64 y] 2))).2.1;have HC2:(w7.alloc (.cells #[.int .i64 y] 2)).cell? (ad2.add m)=some (.int .i64 y):=(World.cell?_alloc_lt w7 _ _ (by rw[block_of_add];exact hbl2)).trans hc2;have hpl:(psz all out').length=out'.length:=by simp[psz]
         have hszz:=F7.out.size;have HY:=Hd hy;clear hal7 hy;rw[hpl]at hA8
         go_region_law (refine step_append_any _ rfl (.tmp 86) (.tmp 91) 46 rfl (w.heap.size+2) 2 i6 _ 1 8 Tryz.underlying46 h60 h61 h62 h63 rfl (by omega) (.slice FA out'.length FC) out'.length _ rfl hA8 (w7.alloc (.cells #[.int .i64 y] 2)).heap.size (some ⟨w7.heap.size,0,none⟩) 1 1 (nums [y]) rfl hr8 nums_one (by simp only[maxLen];omega) (by omega) (by simp;omega) ?_;intro v9 w9 hown9 hg9 hat9;obtain⟨A9,c9,rfl⟩:=own_shape hown9;have hm9:=F7.out.mid (below_drewN (bone w7 (.cells #[.int .i64 y] 2)) 1) hg9 (fun q hq=>(own_in F7.out.sz.2 hq).1);have HM9:=Hd hm9;have d91:=(Blk.four (t:=70) hm9).2.1;have d9f:=hm9.frozen 1;have F9:=Hd (F7.out.right (v:=y) hgl (below_drewN (bone w7 (.cells #[.int .i64 y] 2)) 1) (by rw[hpl];exact hown9) hg9 hat9);clear hown9 hg9 hat9 hm9)
         all_goals
          go_wp2_with fail;go_roundw
          case measure=>simp[intOf];omega
          case rel =>
           have hl:(out' ++ [(m:Int)]).length=out'.length+1:=by simp
           refine⟨i+1,A6,c6,A9,c9,out' ++ [(m:Int)],by go_num,?_⟩;rw[hl];exact ScQ.next F9.out HR.out HSN.out HPN.out HNIN.out HY.out HLEN.out hlt (by omega) HRAN.out ⟨by omega,by omega⟩
  ·have hltI:decide ((i:Int)<(k:Int))=false:=decide_eq_false (by omega)
   obtain rfl:i=k:=by have:=hsc.out.le;omega
   obtain⟨R,hR⟩:∃R,(r1.bind fun _ s=>pscope en ee all.length i [] s)=R:=⟨_,rfl⟩;obtain⟨hf2,hlen,hle,hran,hok,hbad⟩:=hsc.out;rw[hR]at hf2 hok hbad;have HF:=Hd hf2;have HR:=Hd hR;have HOK:=Hd hok
   have hz1:∀z∈psz all out,1≤z∧z≤4611686018427387904:=fun z hz=>by
    obtain⟨v,hv,rfl⟩:=List.mem_map.1 hz;obtain⟨v0,v1⟩:=hran v hv;have hvl:v.toNat<all.length:=by omega
    rw[List.getD_eq_getElem?_getD,List.getElem?_eq_getElem hvl];exact ha1 _ (List.getElem_mem _)
   have HZ1:=Hd hz1
   have hol:out.length≤1000000:=by
    cases R with
    |bad e x=>have:=hbad e x rfl;omega
    |ok o2 s2=>have:=(hok o2 s2 rfl).2;omega
   obtain⟨lv,bad_,badAt,big,bigAt,told,hqb,-,-⟩:=hf2.qs.blk;have c3:=(QB.cells hqb).2.2.2.1;clear hsc hf2 hR hran hlen hok hbad hle hz1 hqb
   go_upto_if 47 with fail
   repeat (first | (exact qfun_count HF.out hgl HH.out hee HZ1.out hol ht0 ht1 HE1.out HKV.out HV1.out HR.out (fun o s h=>(HOK.out o s h).1) hkb HSH.out hshl) | go_step)
end Go.Proofs.YtjpkkkphhaajgaaGreatDoor.wcp
namespace Go.Proofs.YtjpkkkphhaajgaaGreatDoor.wcp
open Go RowKit ChangeShapes WideShapes ChangeAt Maps words scn
variable {w:World} {gr:Nat} {en ee:Int} {sv:Value} {α:Type} {r:Res α}
set_option maxRecDepth 100000 in
set_option maxHeartbeats 8000000 in
theorem qfun_any {s:Ps}(h:Qok w gr en ee s sv)(hee:ee≠0)(A:Option Addr)(c0:Nat)(all:List Int)(hal:w.ownsRow 0 2 1 (.slice A all.length c0) all.length (nums all))(ha1:∀y∈all,1≤y∧y≤4611686018427387904)(hall:all.length≤1000000)
 (ht0:0≤s.told) (ht1:s.told≤1000000) (hsh:QSh w sv s.sh) (hshl:s.sh.length≤900000) :
 Calls Tryz.prog 90 #[.pointer (some ⟨gr,0,none⟩),.slice A all.length c0] w fun e w'=>QFunR w gr en ee all s sv e w':=by
 obtain⟨iF,hF0,hF1,hF2,hF3⟩:=info_parts infoQF;obtain⟨iL,hL0,hL1,hL2,hL3⟩:=info_parts infoQL;obtain⟨i6,h60,h61,h62,h63⟩:=info_parts info64;obtain⟨wa,hwa⟩:∃wa,(w.alloc (.cells #[.slice none 0 0,.slice none 0 0,.int .i64 0,.slice none 0 0] 70)).alloc (.cells #[.slice none 0 0,.slice none 0 0,.int .i64 0,.slice none 0 0] 70)=wa:=⟨_,rfl⟩;have hba:Below w.heap.size w wa:=by rw[← hwa];exact (bone w _).trans ((bone _ _).mono (by simp))
 have hza:wa.heap.size=w.heap.size+2:=by rw[← hwa];simp
 have hrb:Blk wa w.heap.size 70 #[.slice none 0 0,.slice none 0 0,.int .i64 0,.slice none 0 0]:=by rw[← hwa];exact Blk.under (Blk.new _ _ _) (bone _ _)
 have hfb:Blk wa (w.heap.size+1) 70 #[.slice none 0 0,.slice none 0 0,.int .i64 0,.slice none 0 0]:=by
  rw[← hwa];have:=Blk.new (w.alloc (.cells #[.slice none 0 0,.slice none 0 0,.int .i64 0,.slice none 0 0] 70)) 70 #[.slice none 0 0,.slice none 0 0,.int .i64 0,.slice none 0 0]
  simpa using this
 have hnum:=qnum_un (show QS wa gr en ee sv (.ok () s:Res Unit) from h.below hba) hee (-4611686018427387904) 4611686018427387904;have hgl:gr<w.heap.size:=QS.lt (r:=(.ok () s:Res Unit)) h;have HAL:=Hd hal;have HSH:=Hd hsh;have HH:=Hd h;have HBA:=Hd hba;have HZA:=Hd hza;have HRB:=Hd hrb;have HFB:=Hd hfb;clear h hal hsh hba hza hrb hfb
 go_enter Tryz.func90,Tryz.ntmps90
 go_wp2_with fail;refine hnum.mono ?_;rintro e w1 ⟨a,xa,rfl,t1,hs1,hv1,hz1⟩;clear hnum hwa
 have HR1:Hid (a.natAbs≤4611686018427387904 ∧ -4611686018427387904≤a∧a≤4611686018427387904):=by
  obtain⟨h1,h2⟩:=NumU.range hv1 hz1 (by omega) (by omega);exact⟨by omega,h1,h2⟩
 rw[Res.bind_ok]at hs1 hv1 hz1;obtain⟨r1,hr1⟩:∃r1,pnum en ee (-4611686018427387904) 4611686018427387904 s=r1:=⟨_,rfl⟩;rw[hr1]at hs1 hv1 hz1;obtain⟨k,hk⟩:∃k:Nat,a.natAbs=k:=⟨_,rfl⟩
 have HK:Hid (∀e x,r1 = .bad e x→k=0∧a=0):=fun e x he=>by
  have:=hz1 (by rw[he];rfl);exact⟨by omega,this⟩
 have HS0:ScQ w w1 gr en ee all k r1 sv (.slice none 0 0) (.slice none 0 0) [] 0:=by
  refine⟨⟨t1.blk HRB.out (by omega),t1.blk HFB.out (by omega),⟨⟨none,0,rfl⟩,World.ownsRow_nil _ _ _ _⟩,⟨⟨none,0,rfl⟩,World.ownsRow_nil _ _ _ _⟩,(fun q h _=>by cases h),?_,?_⟩,rfl,Nat.zero_le _,(fun v hv=>by cases hv),?_,?_⟩
  ·exact (Tch.of_below HBA.out (fun k=>k=gr)).trans t1 fun _ _ h=>h
  ·exact QS.same hs1 (fun a s h=>⟨[],by rw[h];rfl⟩) (fun e x h=>by rw[h];rfl)
  ·intro out' s' he
   cases r1 with
   |bad e x=>cases he
   | ok v s2 =>
     rw[Res.bind_ok]at he;injection he with h1 h2
     refine⟨h1.symm,?_⟩;rw[← h2];have:=pnum_len hr1;have:=(Qok.left HH.out).1;omega
  ·intro e x he
   cases r1 with
   |bad e x=>exact (HK.out e x rfl).1
   |ok v s2=>cases he
 have hs0:Hid (ScQ w w1 gr en ee all k r1 sv (.slice none 0 0) (.slice none 0 0) [] 0):=HS0;have HV1:=Hd hv1;have HE1:=Hd hr1;have HKV:Hid (∀v s',r1 = .ok v s'→v.1.natAbs=k):=fun v s' h=>by rw[← (hv1 v s' h).1];exact hk
 have hkb:k≤4611686018427387904:=by have:=HR1.out;omega
 clear t1 hs1 hz1 HS0 hv1 hr1
 go_upto_if 35 with fail
 refine wp_cond_split rfl (fun h=>?_) (fun h=>?_)
 ·have ha:a<0:=of_decide_eq_true h
  have HKA:Hid (-a=(k:Int)):=by unfold Hid;omega
  clear h
  repeat (first | (exact qfun_scope hs0.out hgl HH.out hee HAL.out ha1 hall ht0 ht1 HE1.out HKV.out HV1.out hkb HSH.out hshl) | (simp only[HKA.out]) | go_step | dsimp only)
 ·have ha:¬ a<0:=of_decide_eq_false h
  obtain rfl:a=(k:Int):=by omega
  clear h
  repeat (first | (exact qfun_scope hs0.out hgl HH.out hee HAL.out ha1 hall ht0 ht1 HE1.out HKV.out HV1.out hkb HSH.out hshl) | go_step | dsimp only)
end Go.Proofs.YtjpkkkphhaajgaaGreatDoor.wcp
