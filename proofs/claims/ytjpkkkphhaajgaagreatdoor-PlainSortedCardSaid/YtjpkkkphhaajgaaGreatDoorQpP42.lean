/- QFun12, QFun9, QFun6, QFun5, QFun, QFile, QRd19. -/
import Derived.Test.YtjpkkkphhaajgaaGreatDoorQpP41
set_option linter.all false
/- The document's next function: what its lines are taken from. -/
namespace Go.Proofs.YtjpkkkphhaajgaaGreatDoor.wcp
open Go Go.RowKit Go.ChangeShapes Go.WideShapes Go.ChangeAt Go.Maps Go.Proofs.YtjpkkkphhaajgaaGreatDoor.words Go.Proofs.YtjpkkkphhaajgaaGreatDoor.scn
variable {w w6 : World} {gr : Nat} {en ee : Int} {sv : Value}
set_option maxRecDepth 1000000 in
set_option maxHeartbeats 8000000 in
theorem qfun_from {all : List Int} {s s5 : Ps} {a oo nn xn : Int} {vs vz : Value} {out zs : List Int} (h : F2 w w6 gr en ee sv vs vz oo (.slice none 0 0) out zs (.ok (nn, xn) s5 : Res (Int × Int))) (hgl : gr < w.heap.size) (h0 : Qok w gr en ee s sv) (hee : ee ≠ 0)
 (hz1 : ∀ z ∈ zs, 1 ≤ z ∧ z ≤ 4611686018427387904) (hrg : -4611686018427387904 ≤ nn ∧ nn ≤ 4611686018427387904) (hzl : zs.length ≤ 1000000) (htb : 0 ≤ s5.told ∧ s5.told ≤ 1000000) (hl5 : s5.l.length ≤ 1000000)
 (hp : pfun en ee all s = (pallW en ee zs (nn, xn) s5).bind fun ls s => .ok ⟨out, zs, oo, ls⟩ (if a < 0 then { s with sh := s.sh ++ [(zs, ls)] } else s)) (hsh : QSh w sv s.sh) (hshl : s.sh.length ≤ 900000) (h5 : s5.sh = s.sh)
 {k1 k2 k3 k6 k9 k10 k11 k12 k13 k14 k15 k16 k18 k19 k20 k21 k22 k23 k24 k25 k26 k27 k28 k29 k30 k31 k32 k33 k34 k35 k36 k37 k38 k39 k40 k41 k42 k43 k44 k45 k46 k47 k48 k49 k50 k51 k52 k53 k54 k55 k56 k57 k58 k59 k60 k61 k62 k63 k64 k65 k66 k67 k68 k69 k70 k71 k72 k73 k74 k75 k76 k77 k78 k79 k80 k81 k82 k83 k84 k85 k86 k87 k88 k89 k90 k91 k92 k93 k94 k95 k96 k97 k98 k99 k100 k101 k102 k103 k104 k105 k106 k107 k108 k109 k110 k111 k112 k113 k114 k115 k116 k117 k118 k119 k120 k121 k122 k123 k124 k125 k126 k127 k128 k129 k130 k131 k132 k133 k134 k135 k136 k137 k138 k139 k140 k141 k142 k143 k144 k145 k146 k147 k148 k149 k150 k151 k152 k153 k154 k155 k156 k157 k158 k159 k160 k161 k162 k163 k164 k165 k166 k167 k168 k169 k170 k171 k172 k173 k174 k175 k176 k177 k178 k179 k180 k181 k182 k183 k184 k185 k186 k187 k188 k189 k190 k191 k192 k193 k194 k195 k196 k197 k198 k199 k200 k201 k202 k203 k204 k205 k206 k207 k208 k209 k210 k211 k212 k213 k214 k215 k216 k217 k218 k219 k220 k221 k222 k223 k224 k225 k226 k227 k228 k229 k230 k231 k232 k233 k234 k235 k236 k237 k238 k239 k240 k241 k242 k243 k244 k245 k246 k247 k248 k249 k250 k251 k252 k253 k254 k255 k256 k257 k258 k259 k260 k261 k262 k263 k264 k265 k266 k267 k268 k269 k270 k271 k272 k273 k274 k275 k276 k277 k278 k279 k280 : Value} :
 Code.wp Tryz.prog (sfx 12 qbody) (bodyPost Tryz.prog Tryz.f90 fun e w' => QFunR w gr en ee all s sv e w') ⟨#[.pointer (some ⟨gr, 0, none⟩), k1, k2, k3, .pointer (some ⟨w.heap.size, 0, none⟩), .pointer (some ⟨w.heap.size + 1, 0, none⟩), k6, .int .i64 xn, .bool (decide (a < 0)), k9, k10, k11, k12, k13, k14, k15, k16, .int .i64 nn, k18, k19, k20, k21, k22, k23, k24, k25, k26, k27, k28, k29, k30, k31, k32, k33, k34, k35, k36, k37, k38, k39, k40, k41, k42, k43, k44, k45, k46, k47, k48, k49, k50, k51, k52, k53, k54, k55, k56, k57, k58, k59, k60, k61, k62, k63, k64, k65, k66, k67, k68, k69, k70, k71, k72, k73, k74, k75, k76, k77, k78, k79, k80, k81, k82, k83, k84, k85, k86, k87, k88, k89, k90, k91, k92, k93, k94, k95, k96, k97, k98, k99, k100, k101, k102, k103, k104, k105, k106, k107, k108, k109, k110, k111, k112, k113, k114, k115, k116, k117, k118, k119, k120, k121, k122, k123, k124, k125, k126, k127, k128, k129, k130, k131, k132, k133, k134, k135, k136, k137, k138, k139, k140, k141, k142, k143, k144, k145, k146, k147, k148, k149, k150, k151, k152, k153, k154, k155, k156, k157, k158, k159, k160, k161, k162, k163, k164, k165, k166, k167, k168, k169, k170, k171, k172, k173, k174, k175, k176, k177, k178, k179, k180, k181, k182, k183, k184, k185, k186, k187, k188, k189, k190, k191, k192, k193, k194, k195, k196, k197, k198, k199, k200, k201, k202, k203, k204, k205, k206, k207, k208, k209, k210, k211, k212, k213, k214, k215, k216, k217, k218, k219, k220, k221, k222, k223, k224, k225, k226, k227, k228, k229, k230, k231, k232, k233, k234, k235, k236, k237, k238, k239, k240, k241, k242, k243, k244, k245, k246, k247, k248, k249, k250, k251, k252, k253, k254, k255, k256, k257, k258, k259, k260, k261, k262, k263, k264, k265, k266, k267, k268, k269, k270, k271, k272, k273, k274, k275, k276, k277, k278, k279, k280], []⟩ w6 := by
 conv => arg 2; whnf
 obtain ⟨OA, OC, rfl⟩ := h.sc.1
 obtain ⟨FA, FC, rfl⟩ := h.sz.1
 have F := Lib.hid h
 have H0 := Lib.hid h0
 have HP := Lib.hid hp
 have HSH := Lib.hid hsh
 have H5 := Lib.hid h5
 have HZ1 := Lib.hid hz1
 clear h h0 hp hsh h5 hz1
 obtain ⟨lv, bad_, badAt, big, bigAt, told, hqb, hb0, htl0⟩ := F.out.qs.blk
 obtain rfl : bad_ = 0 := by simpa [Res.good] using hb0
 obtain rfl : s5.told = told := htl0 _ s5 rfl
 have c3 := (QB.cells hqb).2.2.2.1
 have c7 := (QB.cells hqb).2.2.2.2.2.2.2.1
 have c8 := (QB.cells hqb).2.2.2.2.2.2.2.2.1
 have f7 := (QB.cells hqb).2.2.2.2.2.2.2.2.2 7
 obtain ⟨y0, y1, y2, y3, yf0, yf1, yf2, yf3⟩ := Blk.four (t := 70) F.out.fb
 clear hqb hb0 htl0
 by_cases hneg : nn < 0
 ·have hnegI : decide (nn < 0) = true := decide_eq_true hneg
  obtain ⟨m, hm⟩ : ∃ m : Nat, nn = -((m : Int) + 1) := ⟨(-nn - 1).toNat, by omega⟩
  have hsh6 := HSH.out.tch F.out.tc (QS.off (r := (.ok () s : Res Unit)) H0.out (by decide)) (QS.off (r := (.ok () s : Res Unit)) H0.out (by decide)) (QS.off (r := (.ok () s : Res Unit)) H0.out (by decide))
  obtain ⟨fs, hfs, L, hL, ⟨SA, SC, hsv⟩, hso, hsp⟩ := hsh6
  rw [hsv] at hso c8
  obtain ⟨hP1, hP2⟩ := pallW_sh (en := en) (ee := ee) (zs := zs) (xn := xn) hm H5.out hfs hL
  obtain ⟨BAD, hBAD⟩ : ∃ b, shBad L zs m = b := ⟨_, rfl⟩
  rw [hBAD] at hP1 hP2
  have hLl : L.length ≤ 900000 := by have h1 : L.length = s.sh.length := (by rw [← hfs, ← hL, List.length_map, List.length_map]); omega
  have HM := Lib.hid hm
  have HSO := Lib.hid hso
  have HSP := Lib.hid hsp
  have HP1 := Lib.hid hP1
  have HP2 := Lib.hid hP2
  have HBAD := Lib.hid hBAD
  have HW2 : Hid (-nn = (m : Int) + 1) := by unfold Hid; omega
  clear hm hfs hL hso hsp hP1 hP2 hBAD hsv
  have hgr6 : gr < w6.heap.size := F.out.qs.lt
  have C8 := Lib.hid c8
  go_upto_region 37 with fail
  go_cut [160] from 281 (fun bv wq => bv = .bool BAD ∧ Hid (Below w6.heap.size w6 wq))
  case first =>
   by_cases hml : m < L.length
   ·obtain ⟨p, hp⟩ : ∃ p, L[m]? = some p := ⟨_, List.getElem?_eq_getElem hml⟩
    obtain ⟨sq, rfl, -, hsq⟩ := own_some HSO.out (by omega)
    obtain ⟨-, -, hpz, -⟩ := HSP.out p (List.mem_of_getElem? hp)
    have hBp : shBad L zs m = !(eqB p.2.sizes zs) := by unfold shBad; rw [hp]
    have hcp := (HSO.out.cellAt (m * 4 + 1) (by omega)).trans (qc_at hp).2.1
    obtain ⟨⟨PA, pc, hpe⟩, hpo⟩ := hpz
    rw [hpe] at hpo hcp
    have hrz := F.out.sz.2
    have hpl := own_max hpo
    have hzl2 := own_max hrz
    have hpr := Reads.of_own hpo
    have hzr := Reads.of_own hrz
    have hlI : decide ((L.length : Int) < -nn) = false := decide_eq_false (by have := HW2.out; omega)
    have i0 : (0 : Int) ≤ (m : Int) := Int.natCast_nonneg _
    have i1 : (m : Int) < (L.length : Int) := by omega
    have hEQ : Hid (BAD = !(eqB p.2.sizes zs)) := by rw [← hBp]; exact HBAD.out.symm
    have hsl : sq < w6.drew.heap.size := hsq
    have hfl : w.heap.size + 1 < w6.drew.heap.size := Blk.lt F.out.fb
    clear hp hpe hpo hrz hBp hsq
    have hw4 : -nn - 1 = (m : Int) := by have := HW2.out; omega
    go_quiet (first | (go_at_call 72; refine Calls.quiet_of (same_quiet PA FA p.2.sizes.length zs.length pc FC p.2.sizes zs (w6.drewN _) hpl hzl2 hpr hzr)))
    all_goals
     go_wp2_with fail
     go_meet
     case rel => exact ⟨by rw [hEQ.out], below_drewN (Below.refl _ _) _⟩
   ·have hBp : shBad L zs m = true := by unfold shBad; rw [List.getElem?_eq_none (by omega)]
    obtain rfl : BAD = true := by rw [← HBAD.out]; exact hBp
    have hlI : decide ((L.length : Int) < -nn) = true := decide_eq_true (by have := HW2.out; omega)
    clear hBp
    go_quiet (fail)
    all_goals
     go_wp2_with fail
     go_meet
     case rel => exact ⟨rfl, below_drewN (Below.refl _ _) _⟩
  case rest =>
   obtain ⟨rfl, hbq⟩ := hcut
   have F := Lib.hid (F.out.tch hgl (Tch.of_below hbq.out _) (F.out.qs.below hbq.out))
   clear c3 c7 c8 f7 y0 y1 y2 y3 yf0 yf1 yf2 yf3
   cases BAD with
   | true =>
     have HPB : Hid (pfun en ee all s = .bad 4 xn) := by unfold Hid; rw [HP.out, HP1.out rfl]; rfl
     have hwr := qwrong_un (a := ()) (show Qok wc gr en ee s5 sv from F.out.qs) 4 xn (by decide)
     go_wp2_with fail
     refine hwr.mono ?_
     rintro e w8 ⟨⟨u, rfl⟩, hq8, t8⟩
     have F := Lib.hid (F.out.tch hgl t8 (show QS w8 gr en ee sv (.bad 4 xn : Res Unit) from hq8))
     clear hwr hq8 t8
     obtain ⟨y0, y1, y2, y3, -⟩ := Blk.four (t := 70) F.out.fb
     obtain ⟨z0, z1, z2, z3, zf0, zf1, zf2, zf3⟩ := Blk.four (t := 70) F.out.rb
     go_wp2_with fail
     obtain ⟨wf, hwf⟩ : ∃ wf, (((w8.setCell ⟨w.heap.size, 0, none⟩ (.slice OA out.length OC)).setCell ⟨w.heap.size, 1, none⟩ (.slice FA zs.length FC)).setCell ⟨w.heap.size, 2, none⟩ (.int .i64 oo)).setCell ⟨w.heap.size, 3, none⟩ (.slice none 0 0) = wf := ⟨_, rfl⟩
     obtain ⟨hfb, hres⟩ := QFunR.early F.out hgl HPB.out ⟨_, _, _, rfl⟩ hwf
     rw [hwf]
     obtain ⟨k0, k1, k2, k3, -⟩ := Blk.four (t := 70) hfb
     exact bodyPost_ret (v := .agg #[.slice OA out.length OC, .slice FA zs.length FC, .int .i64 oo, .slice none 0 0]) (by simp [results, Tryz.results90, go_sem, k0, k1, k2, k3]) rfl hres
   | false =>
     obtain ⟨p, hp, hpz, hpw⟩ := HP2.out rfl
     obtain ⟨-, -, -, L2, hL2, hlr⟩ := HSP.out p (List.mem_of_getElem? hp)
     obtain ⟨⟨LA, LC, hle⟩, -⟩ := id hlr
     have hml : m < L.length := (List.getElem?_eq_some_iff.1 hp).1
     have hso := own_under HSO.out hbq.out
     obtain ⟨sq, rfl, -, hsq⟩ := own_some hso (by omega)
     have hcp := (hso.cellAt (m * 4 + 3) (by omega)).trans (qc_at hp).2.2.2
     have hlr2 := hlr.tch (Tch.of_below hbq.out (fun _ => False)) (fun _ h => h.elim) (fun _ h => h.elim)
     rw [hle] at hcp hlr2
     have c8 := (show wc.cell? ⟨gr, 8, none⟩ = w6.cell? ⟨gr, 8, none⟩ from (bcell hbq.out).1 gr 8 hgr6).trans C8.out
     obtain ⟨y0, y1, y2, y3, yf0, yf1, yf2, yf3⟩ := Blk.four (t := 70) F.out.fb
     have hw4 : -nn - 1 = (m : Int) := by have := HW2.out; omega
     have i0 : (0 : Int) ≤ (m : Int) := Int.natCast_nonneg _
     have i1 : (m : Int) < (L.length : Int) := by omega
     have HH := LnQ.shared F.out hgl hneg hpw hlr2 hL2
     have HL2 := Lib.hid hL2
     have HPW := Lib.hid hpw
     clear hp hpz hpw hL2 hlr hlr2 hso hle
     go_upto_region 40 with fail
     repeat (first | (exact qfun_lines HH hgl H0.out hee HZ1.out (by omega) hzl HP.out HSH.out hshl H5.out) | go_step | dsimp only)
 ·have hnegI : decide (nn < 0) = false := decide_eq_false hneg
  have hw : wrap64 (s5.told + nn) = s5.told + nn := by unfold wrap64; omega
  obtain ⟨W7, hW7⟩ : ∃ W7, w6.setCell ⟨gr, 7, none⟩ (.int .i64 (s5.told + nn)) = W7 := ⟨_, rfl⟩
  have hQ7 : Qok W7 gr en ee { s5 with told := s5.told + nn } sv := by rw [← hW7]; exact Qok.told (show Qok w6 gr en ee s5 sv from F.out.qs) _
  have T7 : Tch w6 W7 (fun k => k = gr) := by rw [← hW7]; exact Tch.put (S := fun k => k = gr) (Tch.refl w6 _) (p := ⟨gr, 7, none⟩) _ rfl
  have HQ7 := Lib.hid hQ7
  have HT7 := Lib.hid T7
  obtain ⟨_, _, _, _, hqb7, -⟩ := HQ7.out
  have d7 := (QB.cells hqb7).2.2.2.2.2.2.2.1
  have e7 := (QB.cells hqb7).2.2.2.2.2.2.2.2.2 7
  clear T7 hqb7 hQ7
  by_cases hgt : 4611686018427387904 < s5.told + nn
  ·have hgI : decide (4611686018427387904 < s5.told + nn) = true := decide_eq_true hgt
   have HMF : Hid (min (s5.told + nn) far = 4611686018427387904) := by show min (s5.told + nn) 4611686018427387904 = _; omega
   obtain ⟨W8, hW8⟩ : ∃ W8, W7.setCell ⟨gr, 7, none⟩ (.int .i64 4611686018427387904) = W8 := ⟨_, rfl⟩
   have hQ8 : Qok W8 gr en ee { s5 with told := 4611686018427387904 } sv := by rw [← hW8]; exact Qok.told HQ7.out _
   have HT8 := Lib.hid (show Tch w6 W8 (fun k => k = gr) by rw [← hW8]; exact Tch.put (S := fun k => k = gr) HT7.out (p := ⟨gr, 7, none⟩) _ rfl)
   have hlg := qlarge_un (r := (.ok () { s5 with told := 4611686018427387904 } : Res Unit)) hQ8 true xn
   rw [Res.bind_ok] at hlg
   obtain ⟨_, _, _, _, hqb8, -⟩ := id hQ8
   have d8 := (QB.cells hqb8).2.2.2.2.2.2.2.1
   have hgc : decide ((16384 : Int) < 4611686018427387904) = true := rfl
   clear hqb8
   go_wp2_with fail
   refine hlg.mono ?_
   rintro e wl ⟨⟨vl, rfl⟩, hql, htl⟩
   have HH := LnQ.start (nn := nn) (xn := xn) (s5 := s5) (F.out.tch hgl (HT8.out.trans htl fun _ _ h => h) hql) (by rw [HMF.out]; rfl) (by omega) hl5
   clear hlg hql htl hW7 hW8 d8 hgc d7 e7 c3 c7 c8 f7
   repeat (first | (exact qfun_lines HH hgl H0.out hee HZ1.out (by omega) hzl HP.out HSH.out hshl H5.out) | go_step | dsimp only)
  ·have hgI : decide (4611686018427387904 < s5.told + nn) = false := decide_eq_false hgt
   have HMF : Hid (min (s5.told + nn) far = s5.told + nn) := by show min (s5.told + nn) 4611686018427387904 = _; omega
   have hlg := qlarge_un (r := (.ok () { s5 with told := s5.told + nn } : Res Unit)) HQ7.out (decide (16384 < s5.told + nn)) xn
   rw [Res.bind_ok] at hlg
   go_wp2_with fail
   refine hlg.mono ?_
   rintro e wl ⟨⟨vl, rfl⟩, hql, htl⟩
   have HH := LnQ.start (nn := nn) (xn := xn) (s5 := s5) (F.out.tch hgl (HT7.out.trans htl fun _ _ h => h) hql) (by rw [HMF.out]) (by omega) hl5
   clear hlg hql htl hW7 d7 e7 c3 c7 c8 f7
   repeat (first | (exact qfun_lines HH hgl H0.out hee HZ1.out (by omega) hzl HP.out HSH.out hshl H5.out) | go_step | dsimp only)
end Go.Proofs.YtjpkkkphhaajgaaGreatDoor.wcp
/- The document's next function: its other cost, the number of its lines. -/
namespace Go.Proofs.YtjpkkkphhaajgaaGreatDoor.wcp
open Go Go.RowKit Go.ChangeShapes Go.WideShapes Go.ChangeAt Go.Maps Go.Proofs.YtjpkkkphhaajgaaGreatDoor.words Go.Proofs.YtjpkkkphhaajgaaGreatDoor.scn
variable {w wl : World} {gr : Nat} {en ee : Int} {sv : Value}
set_option maxRecDepth 1000000 in
set_option maxHeartbeats 8000000 in
theorem qfun_nums {all : List Int} {s : Ps} {a xa : Int} {vs vz : Value} {out zs : List Int} {R : Res (List Int)} {B : Bool} (h : F2 w wl gr en ee sv vs vz 0 (.slice none 0 0) out zs (R.bind fun a s => .ok a (plarge B xa s))) (hgl : gr < w.heap.size) (h0 : Qok w gr en ee s sv) (hee : ee ≠ 0)
 (hz1 : ∀ z ∈ zs, 1 ≤ z ∧ z ≤ 4611686018427387904) (hzl : zs.length ≤ 1000000) (ht0 : 0 ≤ s.told) (ht1 : s.told ≤ 1000000)
 (hh1 : ∀ e x, ((R.bind fun a s => .ok a (plarge B xa s)).bind fun _ s => pnum en ee 0 far s).bind (fun _ s => pnum en ee (-far) far s) = .bad e x → pfun en ee all s = .bad e x)
 (hh2 : ∀ nn s5, ((R.bind fun a s => .ok a (plarge B xa s)).bind fun _ s => pnum en ee 0 far s).bind (fun _ s => pnum en ee (-far) far s) = .ok nn s5 →
  s5.sh = s.sh ∧ s5.told = s.told ∧ s5.l.length ≤ s.l.length ∧
  ∃ ov s4, ((R.bind fun a s => .ok a (plarge B xa s)).bind fun _ s => pnum en ee 0 far s) = .ok ov s4 ∧
   pfun en ee all s = (pallW en ee zs nn s5).bind fun ls s => .ok ⟨out, zs, ov.1, ls⟩ (if a < 0 then { s with sh := s.sh ++ [(zs, ls)] } else s))
 (hsh : QSh w sv s.sh) (hshl : s.sh.length ≤ 900000)
 {k1 k2 k3 k6 k7 k9 k10 k11 k12 k13 k14 k15 k16 k17 k18 k19 k20 k21 k22 k23 k24 k25 k26 k27 k28 k29 k30 k31 k32 k33 k34 k35 k36 k37 k38 k39 k40 k41 k42 k43 k44 k45 k46 k47 k48 k49 k50 k51 k52 k53 k54 k55 k56 k57 k58 k59 k60 k61 k62 k63 k64 k65 k66 k67 k68 k69 k70 k71 k72 k73 k74 k75 k76 k77 k78 k79 k80 k81 k82 k83 k84 k85 k86 k87 k88 k89 k90 k91 k92 k93 k94 k95 k96 k97 k98 k99 k100 k101 k102 k103 k104 k105 k106 k107 k108 k109 k110 k111 k112 k113 k114 k115 k116 k117 k118 k119 k120 k121 k122 k123 k124 k125 k126 k127 k128 k129 k130 k131 k132 k133 k134 k135 k136 k137 k138 k139 k140 k141 k142 k143 k144 k145 k146 k147 k148 k149 k150 k151 k152 k153 k154 k155 k156 k157 k158 k159 k160 k161 k162 k163 k164 k165 k166 k167 k168 k169 k170 k171 k172 k173 k174 k175 k176 k177 k178 k179 k180 k181 k182 k183 k184 k185 k186 k187 k188 k189 k190 k191 k192 k193 k194 k195 k196 k197 k198 k199 k200 k201 k202 k203 k204 k205 k206 k207 k208 k209 k210 k211 k212 k213 k214 k215 k216 k217 k218 k219 k220 k221 k222 k223 k224 k225 k226 k227 k228 k229 k230 k231 k232 k233 k234 k235 k236 k237 k238 k239 k240 k241 k242 k243 k244 k245 k246 k247 k248 k249 k250 k251 k252 k253 k254 k255 k256 k257 k258 k259 k260 k261 k262 k263 k264 k265 k266 k267 k268 k269 k270 k271 k272 k273 k274 k275 k276 k277 k278 k279 k280 : Value} :
 Code.wp Tryz.prog (sfx 9 qbody) (bodyPost Tryz.prog Tryz.f90 fun e w' => QFunR w gr en ee all s sv e w') ⟨#[.pointer (some ⟨gr, 0, none⟩), k1, k2, k3, .pointer (some ⟨w.heap.size, 0, none⟩), .pointer (some ⟨w.heap.size + 1, 0, none⟩), k6, k7, .bool (decide (a < 0)), k9, k10, k11, k12, k13, k14, k15, k16, k17, k18, k19, k20, k21, k22, k23, k24, k25, k26, k27, k28, k29, k30, k31, k32, k33, k34, k35, k36, k37, k38, k39, k40, k41, k42, k43, k44, k45, k46, k47, k48, k49, k50, k51, k52, k53, k54, k55, k56, k57, k58, k59, k60, k61, k62, k63, k64, k65, k66, k67, k68, k69, k70, k71, k72, k73, k74, k75, k76, k77, k78, k79, k80, k81, k82, k83, k84, k85, k86, k87, k88, k89, k90, k91, k92, k93, k94, k95, k96, k97, k98, k99, k100, k101, k102, k103, k104, k105, k106, k107, k108, k109, k110, k111, k112, k113, k114, k115, k116, k117, k118, k119, k120, k121, k122, k123, k124, k125, k126, k127, k128, k129, k130, k131, k132, k133, k134, k135, k136, k137, k138, k139, k140, k141, k142, k143, k144, k145, k146, k147, k148, k149, k150, k151, k152, k153, k154, k155, k156, k157, k158, k159, k160, k161, k162, k163, k164, k165, k166, k167, k168, k169, k170, k171, k172, k173, k174, k175, k176, k177, k178, k179, k180, k181, k182, k183, k184, k185, k186, k187, k188, k189, k190, k191, k192, k193, k194, k195, k196, k197, k198, k199, k200, k201, k202, k203, k204, k205, k206, k207, k208, k209, k210, k211, k212, k213, k214, k215, k216, k217, k218, k219, k220, k221, k222, k223, k224, k225, k226, k227, k228, k229, k230, k231, k232, k233, k234, k235, k236, k237, k238, k239, k240, k241, k242, k243, k244, k245, k246, k247, k248, k249, k250, k251, k252, k253, k254, k255, k256, k257, k258, k259, k260, k261, k262, k263, k264, k265, k266, k267, k268, k269, k270, k271, k272, k273, k274, k275, k276, k277, k278, k279, k280], []⟩ wl := by
 conv => arg 2; whnf
 obtain ⟨OA, OC, rfl⟩ := h.sc.1
 obtain ⟨FA, FC, rfl⟩ := h.sz.1
 have F := Lib.hid h
 have H0 := Lib.hid h0
 have HSH := Lib.hid hsh
 have HZ1 := Lib.hid hz1
 have HH1 := Lib.hid hh1
 have HH2 := Lib.hid hh2
 clear h h0 hsh hz1 hh1 hh2
 have hn4 := qnum_un F.out.qs hee 0 4611686018427387904
 go_wp2_with fail
 refine hn4.mono ?_
 rintro e w4 ⟨oo, xo, rfl, t4, hs4, hv4, hz4⟩
 clear hn4
 have F := Lib.hid (F.out.tch hgl t4 hs4)
 obtain ⟨y0, y1, y2, y3, yf0, yf1, yf2, yf3⟩ := Blk.four (t := 70) F.out.fb
 have HV4 := Lib.hid hv4
 clear t4 hs4 hv4 hz4
 have F := Lib.hid (F.out.oth hgl oo)
 obtain ⟨w5, hw5⟩ : ∃ w5, w4.setCell ⟨w.heap.size + 1, 2, none⟩ (.int .i64 oo) = w5 := ⟨_, rfl⟩
 rw [hw5] at F
 have hn6 := qnum_un F.out.qs hee (-4611686018427387904) 4611686018427387904
 go_wp2_with fail
 refine hn6.mono ?_
 rintro e w6 ⟨nn, xn, rfl, t6, hs6, hv6, hz6⟩
 clear hn6 hw5 y0 y1 y2 y3 yf0 yf1 yf2 yf3
 have F := Lib.hid (F.out.tch hgl t6 hs6)
 have hnr := NumU.range hv6 hz6 (by omega) (by omega)
 have HNR := Lib.hid hnr
 obtain ⟨R5, hR5⟩ : ∃ R5, (((R.bind fun a s => .ok a (plarge B xa s)).bind fun _ s => pnum en ee 0 far s).bind fun _ s => pnum en ee (-far) far s) = R5 := ⟨_, rfl⟩
 rw [show (((R.bind fun a s => .ok a (plarge B xa s)).bind fun _ s => pnum en ee 0 4611686018427387904 s).bind fun _ s => pnum en ee (-4611686018427387904) 4611686018427387904 s) = R5 from hR5] at F hv6
 rw [hR5] at HH1 HH2
 have HV6 := Lib.hid hv6
 clear t6 hs6 hv6 hz6 hR5 hnr
 cases R5 with
 | bad er at_ =>
   have HPB := Lib.hid (HH1.out er at_ rfl)
   obtain ⟨lv, bad_, badAt, big, bigAt, told, hqb, hb0, -⟩ := F.out.qs.blk
   have hbe : (bad_ != 0) = true := by
    have : ¬ bad_ = 0 := of_decide_eq_false (by rw [hb0]; rfl)
    simp [this]
   have c3 := (QB.cells hqb).2.2.2.1
   clear hqb hb0
   obtain ⟨y0, y1, y2, y3, -⟩ := Blk.four (t := 70) F.out.fb
   obtain ⟨z0, z1, z2, z3, zf0, zf1, zf2, zf3⟩ := Blk.four (t := 70) F.out.rb
   go_wp2_with fail
   obtain ⟨wf, hwf⟩ : ∃ wf, (((w6.setCell ⟨w.heap.size, 0, none⟩ (.slice OA out.length OC)).setCell ⟨w.heap.size, 1, none⟩ (.slice FA zs.length FC)).setCell ⟨w.heap.size, 2, none⟩ (.int .i64 oo)).setCell ⟨w.heap.size, 3, none⟩ (.slice none 0 0) = wf := ⟨_, rfl⟩
   obtain ⟨hfb, hres⟩ := QFunR.early F.out hgl HPB.out ⟨_, _, _, rfl⟩ hwf
   rw [hwf]
   obtain ⟨k0, k1, k2, k3, -⟩ := Blk.four (t := 70) hfb
   exact bodyPost_ret (v := .agg #[.slice OA out.length OC, .slice FA zs.length FC, .int .i64 oo, .slice none 0 0]) (by simp [results, Tryz.results90, go_sem, k0, k1, k2, k3]) rfl hres
 | ok nv s5 =>
   obtain ⟨hnn, hxx⟩ := HV6.out nv s5 rfl
   obtain ⟨nv1, nv2⟩ := nv
   dsimp only at hnn hxx
   subst hnn hxx
   obtain ⟨hsh5, htold5, hlen5, ov, s4, hR4, hpf⟩ := HH2.out _ s5 rfl
   obtain ⟨hoo, -⟩ := HV4.out ov s4 hR4
   rw [← hoo] at hpf
   have hrg := HNR.out
   have hl5 : s5.l.length ≤ 1000000 := by have := (Qok.left H0.out).1; omega
   have htb : 0 ≤ s5.told ∧ s5.told ≤ 1000000 := by omega
   have HPF := Lib.hid hpf
   have HS5 := Lib.hid hsh5
   obtain ⟨lv, bad_, badAt, big, bigAt, told, hqb, hb0, -⟩ := F.out.qs.blk
   obtain rfl : bad_ = 0 := by simpa [Res.good] using hb0
   have c3 := (QB.cells hqb).2.2.2.1
   clear hqb hb0 hpf hsh5 htold5 hlen5 hR4 hoo
   go_upto_if 133 with fail
   repeat (first | (exact qfun_from F.out hgl H0.out hee HZ1.out hrg hzl htb hl5 HPF.out HSH.out hshl HS5.out) | go_step)
end Go.Proofs.YtjpkkkphhaajgaaGreatDoor.wcp
/- The document's next function: the number of its tuples. -/
namespace Go.Proofs.YtjpkkkphhaajgaaGreatDoor.wcp
open Go Go.RowKit Go.ChangeShapes Go.WideShapes Go.ChangeAt Go.Maps Go.Proofs.YtjpkkkphhaajgaaGreatDoor.words Go.Proofs.YtjpkkkphhaajgaaGreatDoor.scn
variable {w wr : World} {gr : Nat} {en ee : Int} {sv : Value}
set_option maxRecDepth 1000000 in
set_option maxHeartbeats 8000000 in
theorem qfun_count {all : List Int} {s : Ps} {a xa : Int} {vs vz : Value} {out : List Int} {R : Res (List Int)} {r1 : Res (Int × Int)} {k : Nat} (h : F2 w wr gr en ee sv vs vz 0 (.slice none 0 0) out (psz all out) R) (hgl : gr < w.heap.size) (h0 : Qok w gr en ee s sv) (hee : ee ≠ 0)
 (hz1 : ∀ z ∈ psz all out, 1 ≤ z ∧ z ≤ 4611686018427387904) (hol : out.length ≤ 1000000) (ht0 : 0 ≤ s.told) (ht1 : s.told ≤ 1000000)
 (hE1 : pnum en ee (-4611686018427387904) 4611686018427387904 s = r1) (hKV : ∀ v s', r1 = .ok v s' → v.1.natAbs = k) (hV1 : ∀ v s', r1 = .ok v s' → a = v.1 ∧ xa = v.2) (hR : (r1.bind fun _ s => pscope en ee all.length k [] s) = R) (hout : ∀ out' s', R = .ok out' s' → out' = out)
 (hkb : k ≤ 4611686018427387904) (hsh : QSh w sv s.sh) (hshl : s.sh.length ≤ 900000)
 {k1 k2 k3 k9 k10 k11 k12 k13 k14 k15 k16 k17 k18 k19 k20 k21 k22 k23 k24 k25 k26 k27 k28 k29 k30 k31 k32 k33 k34 k35 k36 k37 k38 k39 k40 k41 k42 k43 k44 k45 k46 k47 k48 k49 k50 k51 k52 k53 k54 k55 k56 k57 k58 k59 k60 k61 k62 k63 k64 k65 k66 k67 k68 k69 k70 k71 k72 k73 k74 k75 k76 k77 k78 k79 k80 k81 k82 k83 k84 k85 k86 k87 k88 k89 k90 k91 k92 k93 k94 k95 k96 k97 k98 k99 k100 k101 k102 k103 k104 k105 k106 k107 k108 k109 k110 k111 k112 k113 k114 k115 k116 k117 k118 k119 k120 k121 k122 k123 k124 k125 k126 k127 k128 k129 k130 k131 k132 k133 k134 k135 k136 k137 k138 k139 k140 k141 k142 k143 k144 k145 k146 k147 k148 k149 k150 k151 k152 k153 k154 k155 k156 k157 k158 k159 k160 k161 k162 k163 k164 k165 k166 k167 k168 k169 k170 k171 k172 k173 k174 k175 k176 k177 k178 k179 k180 k181 k182 k183 k184 k185 k186 k187 k188 k189 k190 k191 k192 k193 k194 k195 k196 k197 k198 k199 k200 k201 k202 k203 k204 k205 k206 k207 k208 k209 k210 k211 k212 k213 k214 k215 k216 k217 k218 k219 k220 k221 k222 k223 k224 k225 k226 k227 k228 k229 k230 k231 k232 k233 k234 k235 k236 k237 k238 k239 k240 k241 k242 k243 k244 k245 k246 k247 k248 k249 k250 k251 k252 k253 k254 k255 k256 k257 k258 k259 k260 k261 k262 k263 k264 k265 k266 k267 k268 k269 k270 k271 k272 k273 k274 k275 k276 k277 k278 k279 k280 : Value} :
 Code.wp Tryz.prog (sfx 6 qbody) (bodyPost Tryz.prog Tryz.f90 fun e w' => QFunR w gr en ee all s sv e w') ⟨#[.pointer (some ⟨gr, 0, none⟩), k1, k2, k3, .pointer (some ⟨w.heap.size, 0, none⟩), .pointer (some ⟨w.heap.size + 1, 0, none⟩), .int .i64 (k : Int), .int .i64 xa, .bool (decide (a < 0)), k9, k10, k11, k12, k13, k14, k15, k16, k17, k18, k19, k20, k21, k22, k23, k24, k25, k26, k27, k28, k29, k30, k31, k32, k33, k34, k35, k36, k37, k38, k39, k40, k41, k42, k43, k44, k45, k46, k47, k48, k49, k50, k51, k52, k53, k54, k55, k56, k57, k58, k59, k60, k61, k62, k63, k64, k65, k66, k67, k68, k69, k70, k71, k72, k73, k74, k75, k76, k77, k78, k79, k80, k81, k82, k83, k84, k85, k86, k87, k88, k89, k90, k91, k92, k93, k94, k95, k96, k97, k98, k99, k100, k101, k102, k103, k104, k105, k106, k107, k108, k109, k110, k111, k112, k113, k114, k115, k116, k117, k118, k119, k120, k121, k122, k123, k124, k125, k126, k127, k128, k129, k130, k131, k132, k133, k134, k135, k136, k137, k138, k139, k140, k141, k142, k143, k144, k145, k146, k147, k148, k149, k150, k151, k152, k153, k154, k155, k156, k157, k158, k159, k160, k161, k162, k163, k164, k165, k166, k167, k168, k169, k170, k171, k172, k173, k174, k175, k176, k177, k178, k179, k180, k181, k182, k183, k184, k185, k186, k187, k188, k189, k190, k191, k192, k193, k194, k195, k196, k197, k198, k199, k200, k201, k202, k203, k204, k205, k206, k207, k208, k209, k210, k211, k212, k213, k214, k215, k216, k217, k218, k219, k220, k221, k222, k223, k224, k225, k226, k227, k228, k229, k230, k231, k232, k233, k234, k235, k236, k237, k238, k239, k240, k241, k242, k243, k244, k245, k246, k247, k248, k249, k250, k251, k252, k253, k254, k255, k256, k257, k258, k259, k260, k261, k262, k263, k264, k265, k266, k267, k268, k269, k270, k271, k272, k273, k274, k275, k276, k277, k278, k279, k280], []⟩ wr := by
 conv => arg 2; whnf
 obtain ⟨B, hB⟩ : ∃ B, (decide ((k : Int) > 6) || great (psz all out)) = B := ⟨_, rfl⟩
 have HHD := Lib.hid (pfun_head hE1 hKV hV1 hR hout hB)
 have hlg := qlarge_un h.qs B xa
 obtain ⟨zs, hzs⟩ : ∃ zs, psz all out = zs := ⟨_, rfl⟩
 have hpl : zs.length = out.length := by rw [← hzs]; simp [psz]
 have hzl : zs.length ≤ 1000000 := by omega
 rw [hzs] at h hz1 hB HHD
 obtain ⟨OA, OC, rfl⟩ := h.sc.1
 obtain ⟨FA, FC, rfl⟩ := h.sz.1
 have F := Lib.hid h
 have H0 := Lib.hid h0
 have HSH := Lib.hid hsh
 have HZ1 := Lib.hid hz1
 have HB := Lib.hid hB
 have hrow := Reads.of_own h.sz.2
 obtain ⟨y0, y1, y2, y3, -⟩ := Blk.four (t := 70) h.fb
 clear h h0 hsh hz1 hE1 hKV hV1 hR hout hB hzs hpl hol
 have HLG := Lib.hid hlg
 clear hlg
 go_wp2_with fail
 go_loopw [14, 97] (fun cv jv wq => ∃ (j : Nat) (p : Int), jv = .int .i64 j ∧ cv = .int .i64 p ∧ j ≤ zs.length ∧ capped (zs.take j) 1 = p ∧ 1 ≤ p ∧ p ≤ 4097 ∧ wr = wq) (fun _ jv _ => zs.length - (intOf jv).toNat)
 case atStart => exact ⟨0, 1, rfl, rfl, Nat.zero_le _, rfl, by omega, by omega, rfl⟩
 case round =>
  obtain ⟨j, p, rfl, rfl, hj, hp, hp1, hp2, rfl⟩ := hrel
  by_cases hjl : j < zs.length
  ·obtain ⟨ad, z, hA1, _, hz, hc⟩ := hrow.num hjl
   subst hA1
   have hjI : decide ((j : Int) < (zs.length : Int)) = true := decide_eq_true (by omega)
   have hz1 := HZ1.out z (List.mem_of_getElem? hz)
   have htk : zs.take (j + 1) = zs.take j ++ [z] := by rw [List.take_add_one, hz]; rfl
   have hcs := capped_snoc (k := z) hp
   rw [← htk] at hcs
   have HC := Lib.hid hcs
   clear hp htk hcs hz
   by_cases hx4 : 4096 < z
   ·have hxI : decide (4096 < z) = true := decide_eq_true hx4
    have hmz : min z 4097 = 4097 := by omega
    by_cases hg : 4096 < p * 4097
    ·have hd : decide (4096 < p * 4097) = true := decide_eq_true hg
     go_wp2_with fail
     go_roundw
     case rel => exact ⟨j + 1, 4097, by go_num, rfl, by omega, by rw [HC.out, hmz]; omega, by omega, by omega, by first | rfl | trivial⟩
     case measure => simp [intOf]; omega
    ·have hd : decide (4096 < p * 4097) = false := decide_eq_false hg
     go_wp2_with fail
     go_roundw
     case rel => exact ⟨j + 1, p * 4097, by go_num, by first | rfl | go_num, by omega, by rw [HC.out, hmz]; omega, by omega, by omega, by first | rfl | trivial⟩
     case measure => simp [intOf]; omega
   ·have hxI : decide (4096 < z) = false := decide_eq_false hx4
    have hm1 : 1 ≤ z ∧ z ≤ 4096 := by omega
    have hb1 : 1 * 1 ≤ p * z := Int.mul_le_mul hp1 hm1.1 (by omega) (by omega)
    have hb2 : p * z ≤ 4097 * 4096 := Int.mul_le_mul hp2 hm1.2 (by omega) (by omega)
    have hmz : min z 4097 = z := by omega
    by_cases hg : 4096 < p * z
    ·have hd : decide (4096 < p * z) = true := decide_eq_true hg
     go_wp2_with fail
     go_roundw
     case rel => exact ⟨j + 1, 4097, by go_num, rfl, by omega, by rw [HC.out, hmz]; omega, by omega, by omega, by first | rfl | trivial⟩
     case measure => simp [intOf]; omega
    ·have hd : decide (4096 < p * z) = false := decide_eq_false hg
     go_wp2_with fail
     go_roundw
     case rel => exact ⟨j + 1, p * z, by go_num, by first | rfl | go_num, by omega, by rw [HC.out, hmz]; omega, by omega, by omega, by first | rfl | trivial⟩
     case measure => simp [intOf]; omega
  ·obtain rfl : j = zs.length := by omega
   have hjI : decide ((zs.length : Int) < (zs.length : Int)) = false := decide_eq_false (by omega)
   have HCG : Hid (great zs = decide (4096 < p)) := by
    rw [List.take_of_length_le (by omega)] at hp
    rw [Hid, great_is, hp]
   clear hp hrow y0 y1 y2 y3
   have hlg := HLG.out
   by_cases hk6 : 6 < k
   ·have hkI : decide ((6 : Int) < (k : Int)) = true := decide_eq_true (by omega)
    obtain rfl : B = true := by rw [← HB.out, decide_eq_true (show (k : Int) > 6 by omega)]; rfl
    go_wp2_with fail
    refine hlg.mono ?_
    rintro e wl ⟨⟨vl, rfl⟩, hrl, htl⟩
    repeat (first | (exact qfun_nums (F.out.tch hgl htl hrl) hgl H0.out hee HZ1.out hzl ht0 ht1 HHD.out.1 HHD.out.2 HSH.out hshl) | go_step | dsimp only)
   ·have hkI : decide ((6 : Int) < (k : Int)) = false := decide_eq_false (by omega)
    have hgB : decide (4096 < p) = B := by rw [← HB.out, decide_eq_false (show ¬ (k : Int) > 6 by omega), HCG.out]; rfl
    go_wp2_with fail
    refine hlg.mono ?_
    rintro e wl ⟨⟨vl, rfl⟩, hrl, htl⟩
    repeat (first | (exact qfun_nums (F.out.tch hgl htl hrl) hgl H0.out hee HZ1.out hzl ht0 ht1 HHD.out.1 HHD.out.2 HSH.out hshl) | go_step | dsimp only)
end Go.Proofs.YtjpkkkphhaajgaaGreatDoor.wcp
/- The document's next function: its scope. -/
namespace Go.Proofs.YtjpkkkphhaajgaaGreatDoor.wcp
open Go Go.RowKit Go.ChangeShapes Go.WideShapes Go.ChangeAt Go.Maps Go.Proofs.YtjpkkkphhaajgaaGreatDoor.words Go.Proofs.YtjpkkkphhaajgaaGreatDoor.scn
variable {w w1 : World} {gr : Nat} {en ee : Int} {sv : Value}
set_option maxRecDepth 1000000 in
set_option maxHeartbeats 8000000 in
theorem qfun_scope {all : List Int} {A : Option Addr} {c0 : Nat} {s : Ps} {a xa : Int} {r1 : Res (Int × Int)} {k : Nat} (hs0 : ScQ w w1 gr en ee all k r1 sv (.slice none 0 0) (.slice none 0 0) [] 0) (hgl : gr < w.heap.size) (h0 : Qok w gr en ee s sv) (hee : ee ≠ 0)
 (hal : w.ownsRow 0 2 1 (.slice A all.length c0) all.length (nums all)) (ha1 : ∀ y ∈ all, 1 ≤ y ∧ y ≤ 4611686018427387904) (hall : all.length ≤ 1000000)
 (ht0 : 0 ≤ s.told) (ht1 : s.told ≤ 1000000)
 (hE1 : pnum en ee (-4611686018427387904) 4611686018427387904 s = r1) (hKV : ∀ v s', r1 = .ok v s' → v.1.natAbs = k) (hV1 : ∀ v s', r1 = .ok v s' → a = v.1 ∧ xa = v.2)
 (hkb : k ≤ 4611686018427387904) (hsh : QSh w sv s.sh) (hshl : s.sh.length ≤ 900000)
 {k2 k3 k9 k10 k11 k12 k13 k14 k15 k16 k17 k18 k19 k20 k21 k22 k23 k24 k25 k26 k27 k28 k29 k30 k31 k32 k33 k34 k35 k36 k37 k38 k39 k40 k41 k42 k43 k44 k45 k46 k47 k48 k49 k50 k51 k52 k53 k54 k55 k56 k57 k58 k59 k60 k61 k62 k63 k64 k65 k66 k67 k68 k69 k70 k71 k72 k73 k74 k75 k76 k77 k78 k79 k80 k81 k82 k83 k84 k85 k86 k87 k88 k89 k90 k91 k92 k93 k94 k95 k96 k97 k98 k99 k100 k101 k102 k103 k104 k105 k106 k107 k108 k109 k110 k111 k112 k113 k114 k115 k116 k117 k118 k119 k120 k121 k122 k123 k124 k125 k126 k127 k128 k129 k130 k131 k132 k133 k134 k135 k136 k137 k138 k139 k140 k141 k142 k143 k144 k145 k146 k147 k148 k149 k150 k151 k152 k153 k154 k155 k156 k157 k158 k159 k160 k161 k162 k163 k164 k165 k166 k167 k168 k169 k170 k171 k172 k173 k174 k175 k176 k177 k178 k179 k180 k181 k182 k183 k184 k185 k186 k187 k188 k189 k190 k191 k192 k193 k194 k195 k196 k197 k198 k199 k200 k201 k202 k203 k204 k205 k206 k207 k208 k209 k210 k211 k212 k213 k214 k215 k216 k217 k218 k219 k220 k221 k222 k223 k224 k225 k226 k227 k228 k229 k230 k231 k232 k233 k234 k235 k236 k237 k238 k239 k240 k241 k242 k243 k244 k245 k246 k247 k248 k249 k250 k251 k252 k253 k254 k255 k256 k257 k258 k259 k260 k261 k262 k263 k264 k265 k266 k267 k268 k269 k270 k271 k272 k273 k274 k275 k276 k277 k278 k279 k280 : Value} :
 Code.wp Tryz.prog (sfx 5 qbody) (bodyPost Tryz.prog Tryz.f90 fun e w' => QFunR w gr en ee all s sv e w') ⟨#[.pointer (some ⟨gr, 0, none⟩), .slice A all.length c0, k2, k3, .pointer (some ⟨w.heap.size, 0, none⟩), .pointer (some ⟨w.heap.size + 1, 0, none⟩), .int .i64 (k : Int), .int .i64 xa, .bool (decide (a < 0)), k9, k10, k11, k12, k13, k14, k15, k16, k17, k18, k19, k20, k21, k22, k23, k24, k25, k26, k27, k28, k29, k30, k31, k32, k33, k34, k35, k36, k37, k38, k39, k40, k41, k42, k43, k44, k45, k46, k47, k48, k49, k50, k51, k52, k53, k54, k55, k56, k57, k58, k59, k60, k61, k62, k63, k64, k65, k66, k67, k68, k69, k70, k71, k72, k73, k74, k75, k76, k77, k78, k79, k80, k81, k82, k83, k84, k85, k86, k87, k88, k89, k90, k91, k92, k93, k94, k95, k96, k97, k98, k99, k100, k101, k102, k103, k104, k105, k106, k107, k108, k109, k110, k111, k112, k113, k114, k115, k116, k117, k118, k119, k120, k121, k122, k123, k124, k125, k126, k127, k128, k129, k130, k131, k132, k133, k134, k135, k136, k137, k138, k139, k140, k141, k142, k143, k144, k145, k146, k147, k148, k149, k150, k151, k152, k153, k154, k155, k156, k157, k158, k159, k160, k161, k162, k163, k164, k165, k166, k167, k168, k169, k170, k171, k172, k173, k174, k175, k176, k177, k178, k179, k180, k181, k182, k183, k184, k185, k186, k187, k188, k189, k190, k191, k192, k193, k194, k195, k196, k197, k198, k199, k200, k201, k202, k203, k204, k205, k206, k207, k208, k209, k210, k211, k212, k213, k214, k215, k216, k217, k218, k219, k220, k221, k222, k223, k224, k225, k226, k227, k228, k229, k230, k231, k232, k233, k234, k235, k236, k237, k238, k239, k240, k241, k242, k243, k244, k245, k246, k247, k248, k249, k250, k251, k252, k253, k254, k255, k256, k257, k258, k259, k260, k261, k262, k263, k264, k265, k266, k267, k268, k269, k270, k271, k272, k273, k274, k275, k276, k277, k278, k279, k280], []⟩ w1 := by
 conv => arg 2; whnf
 obtain ⟨i6, h60, h61, h62, h63⟩ := info_parts info64
 have HS0 := Lib.hid hs0
 have HH := Lib.hid h0
 have HSH := Lib.hid hsh
 have HAL := Lib.hid hal
 have HE1 := Lib.hid hE1
 have HKV := Lib.hid hKV
 have HV1 := Lib.hid hV1
 clear hs0 h0 hsh hal hE1 hKV hV1
 go_wp2_with fail
 go_loopw [9] (fun iv wr => ∃ (i : Nat) (OA : Option Addr) (OC : Nat) (FA : Option Addr) (FC : Nat) (out : List Int), iv = .int .i64 i ∧ Hid (ScQ w wr gr en ee all k r1 sv (.slice OA out.length OC) (.slice FA out.length FC) out i)) (fun iv _ => k - (intOf iv).toNat)
 case atStart => exact ⟨0, none, 0, none, 0, [], rfl, HS0⟩
 case round =>
  clear HS0
  obtain ⟨i, OA, OC, FA, FC, out, rfl, hsc⟩ := hrel
  by_cases hlt : i < k
  ·have hltI : decide ((i : Int) < (k : Int)) = true := decide_eq_true (by omega)
   obtain ⟨R, hR⟩ : ∃ R, (r1.bind fun _ s => pscope en ee all.length i [] s) = R := ⟨_, rfl⟩
   obtain ⟨hf2, hlen, hle, hran, hok, hbad⟩ := hsc.out
   rw [hR] at hf2 hok hbad
   cases R with
   | bad er x => exact absurd (hbad er x rfl) (by omega)
   | ok out' s2 =>
     obtain ⟨rfl, hll⟩ := hok out' s2 rfl
     have hnum := qnum_un hf2.qs hee 0 ((all.length : Int) - 1)
     obtain ⟨lv, bad_, badAt, big, bigAt, told, hqb, hb0, -⟩ := hf2.qs.blk
     obtain rfl : bad_ = 0 := by simpa [Res.good] using hb0
     have c3 := (QB.cells hqb).2.2.2.1
     have F := Lib.hid hf2
     have HR := Lib.hid hR
     have HRAN := Lib.hid hran
     have HLEN := Lib.hid hlen
     have hol : out'.length ≤ 1000000 := by omega
     clear hsc hf2 hok hbad hR hb0 hqb hran hlen
     go_wp2_with fail
     refine hnum.mono ?_
     rintro e w3 ⟨v, x, rfl, t3, hs3, hv3, hz3⟩
     clear hnum c3
     rw [Res.bind_ok] at hs3 hv3 hz3
     have F := Lib.hid (F.out.tch hgl t3 hs3)
     have HSN : Hid ((r1.bind fun _ s => pscope en ee all.length (i + 1) [] s) = pscope1 en ee all.length out' s2) := by
      unfold Hid
      have := HR.out
      cases r1 with
      | bad e x => cases this
      | ok u s => rw [Res.bind_ok] at this ⊢; rw [pscope_snoc, this, Res.bind_ok]
     cases hpn : pnum en ee 0 ((all.length : Int) - 1) s2 with
     | bad er at_ =>
       rw [hpn] at F
       have HPB : Hid (pfun en ee all s = .bad er at_) := pfun_scope_bad HE1.out (HKV.out) (by rw [HSN.out]; unfold pscope1; rw [hpn]; rfl) (show i + 1 ≤ k by omega)
       obtain ⟨lv, bad_, badAt, big, bigAt, told, hqb, hb0, -⟩ := F.out.qs.blk
       have hbe : (bad_ != 0) = true := by
        have : ¬ bad_ = 0 := of_decide_eq_false (by rw [hb0]; rfl)
        simp [this]
       have c3 := (QB.cells hqb).2.2.2.1
       clear hqb hb0 hpn t3 hs3 hv3 hz3
       obtain ⟨y0, y1, y2, y3, -⟩ := Blk.four (t := 70) F.out.fb
       obtain ⟨z0, z1, z2, z3, zf0, zf1, zf2, zf3⟩ := Blk.four (t := 70) F.out.rb
       go_wp2_with fail
       obtain ⟨wf, hwf⟩ : ∃ wf, (((w3.setCell ⟨w.heap.size, 0, none⟩ (.slice OA out'.length OC)).setCell ⟨w.heap.size, 1, none⟩ (.slice FA out'.length FC)).setCell ⟨w.heap.size, 2, none⟩ (.int .i64 0)).setCell ⟨w.heap.size, 3, none⟩ (.slice none 0 0) = wf := ⟨_, rfl⟩
       obtain ⟨hfb, hres⟩ := QFunR.early F.out hgl HPB.out ⟨_, _, _, rfl⟩ hwf
       rw [hwf]
       obtain ⟨k0, k1, k2, k3, -⟩ := Blk.four (t := 70) hfb
       exact bodyPost_ret (v := .agg #[.slice OA out'.length OC, .slice FA out'.length FC, .int .i64 0, .slice none 0 0]) (by simp [results, Tryz.results90, go_sem, k0, k1, k2, k3]) rfl hres
     | ok vx s3 =>
       rw [hpn] at F
       obtain ⟨hv0, hx0⟩ := hv3 vx s3 hpn
       obtain ⟨p1, p2, -, -, -, p6⟩ := pnum_ok hpn
       rw [← hv0] at p1 p2
       have HPN : Hid (pnum en ee 0 ((all.length : Int) - 1) s2 = .ok (v, x) s3) := by rw [hv0, hx0]; exact hpn
       obtain ⟨lv, bad_, badAt, big, bigAt, told, hqb, hb0, -⟩ := F.out.qs.blk
       obtain rfl : bad_ = 0 := by simpa [Res.good] using hb0
       have c3 := (QB.cells hqb).2.2.2.1
       obtain ⟨y0, y1, y2, y3, yf0, yf1, -⟩ := Blk.four (t := 70) F.out.fb
       have H6 : Hid (s3.l.length + 1 = s2.l.length) := p6
       have hrow := Reads.of_own F.out.sc.2
       clear hqb hb0 hpn t3 hs3 hv3 hz3 hv0 hx0 p6
       go_wp2_with fail
       go_loopw [67] (fun jv wq => ∃ j : Nat, jv = .int .i64 j ∧ j ≤ out'.length ∧ w3 = wq ∧ v ∉ out'.take j) (fun jv _ => out'.length - (intOf jv).toNat)
       case atStart => exact ⟨0, rfl, Nat.zero_le _, rfl, by simp⟩
       case round =>
        obtain ⟨j, rfl, hj, rfl, hnin⟩ := hrel
        have HJ := Lib.hid hnin
        by_cases hjl : j < out'.length
        ·obtain ⟨ad, u, rfl, _, hu, hc⟩ := hrow.num hjl
         have hjI : decide ((j : Int) < (out'.length : Int)) = true := decide_eq_true (by omega)
         by_cases huv : u = v
         ·subst huv
          have HPB : Hid (pfun en ee all s = .bad 4 x) := pfun_scope_bad HE1.out (HKV.out) (by rw [HSN.out]; unfold pscope1; rw [HPN.out, Res.bind_ok, if_pos (List.mem_of_getElem? hu)]) (show i + 1 ≤ k by omega)
          have hwr := qwrong_un (a := ()) (show Qok w3 gr en ee s3 sv from F.out.qs) 4 x (by decide)
          clear hnin hu
          go_wp2_with fail
          refine hwr.mono ?_
          rintro e w4 ⟨⟨u4, rfl⟩, hq4, t4⟩
          clear hwr c3 y0 y1 y2 y3 yf0 yf1 hc
          have F := Lib.hid (F.out.tch hgl t4 (show QS w4 gr en ee sv (.bad 4 x : Res Unit) from hq4))
          clear hq4 t4
          obtain ⟨y0, y1, y2, y3, -⟩ := Blk.four (t := 70) F.out.fb
          obtain ⟨z0, z1, z2, z3, zf0, zf1, zf2, zf3⟩ := Blk.four (t := 70) F.out.rb
          go_wp2_with fail
          obtain ⟨wf, hwf⟩ : ∃ wf, (((w4.setCell ⟨w.heap.size, 0, none⟩ (.slice (some ad) out'.length OC)).setCell ⟨w.heap.size, 1, none⟩ (.slice FA out'.length FC)).setCell ⟨w.heap.size, 2, none⟩ (.int .i64 0)).setCell ⟨w.heap.size, 3, none⟩ (.slice none 0 0) = wf := ⟨_, rfl⟩
          obtain ⟨hfb, hres⟩ := QFunR.early F.out hgl HPB.out ⟨_, _, _, rfl⟩ hwf
          rw [hwf]
          obtain ⟨k0, k1, k2, k3, -⟩ := Blk.four (t := 70) hfb
          exact bodyPost_ret (v := .agg #[.slice (some ad) out'.length OC, .slice FA out'.length FC, .int .i64 0, .slice none 0 0]) (by simp [results, Tryz.results90, go_sem, k0, k1, k2, k3]) rfl hres
         ·have huvb : (u == v) = false := by simp [huv]
          have HU := Lib.hid hu
          have HUV := Lib.hid huv
          clear hnin hu huv
          go_wp2_with fail
          go_roundw
          case measure => simp [intOf]; omega
          case rel =>
           refine ⟨j + 1, by go_num, by omega, by first | rfl | trivial, fun hm => ?_⟩
           rw [List.take_add_one, HU.out] at hm
           rcases List.mem_append.1 hm with hm | hm
           ·exact HJ.out hm
           ·simp at hm; exact HUV.out hm.symm
        ·obtain rfl : j = out'.length := by omega
         have hjI : decide ((out'.length : Int) < (out'.length : Int)) = false := decide_eq_false (by omega)
         have HNIN : Hid (v ∉ out') := by have := HJ.out; rw [List.take_of_length_le (Nat.le_refl _)] at this; exact this
         have hA1 := F.out.sc.2.alloc (.cells #[.int .i64 v] 2)
         have hr1 : Reads (w3.alloc (.cells #[.int .i64 v] 2)) (w3.alloc (.cells #[.int .i64 v] 2)).heap.size 1 (some ⟨w3.heap.size, 0, none⟩) 1 (nums [v]) := reads_block (t := 2) (heap_alloc_new _ _) rfl
         have hsz : w.heap.size + 2 ≤ (w3.alloc (.cells #[.int .i64 v] 2)).heap.size := by have := F.out.size; simp; omega
         clear hnin
         go_upto_region 20 with (first
          | (at_builtin; refine wpList_append_any _ rfl (.tmp 80) (.tmp 82) _ rfl (w.heap.size + 2) 2 i6 _ 1 8 Tryz.underlying46 h60 h61 h62 h63 rfl (by omega) (.slice OA out'.length OC) out'.length _ rfl hA1 (w3.alloc (.cells #[.int .i64 v] 2)).heap.size (some ⟨w3.heap.size, 0, none⟩) 1 1 (nums [v]) rfl hr1 nums_one (by simp only [maxLen]; omega) (by omega) hsz ?_; intro v6 w6 hown6 hg6 hat6; obtain ⟨A6, c6, rfl⟩ := own_shape hown6; have hm6 := F.out.mid (bone w3 (.cells #[.int .i64 v] 2)) hg6 (fun q hq => (own_in F.out.sc.2 hq).1); have HM6 := Lib.hid hm6; have d60 := (Blk.four (t := 70) hm6).1; have d6f := hm6.frozen 0; have F7 := Lib.hid (F.out.left hgl (bone w3 (.cells #[.int .i64 v] 2)) hown6 hg6 hat6); clear hown6 hg6 hat6 hm6 hA1 hr1)
          | fail)
         clear hsz y0 y1 y2 y3 yf0 yf1 hrow c3
         obtain ⟨w7, hw7⟩ : ∃ w7, w6.setCell ⟨w.heap.size + 1, 0, none⟩ (.slice A6 (out'.length + 1) c6) = w7 := ⟨_, rfl⟩
         rw [hw7] at F7 ⊢
         clear hw7 d60 d6f
         obtain ⟨m, rfl⟩ : ∃ m : Nat, v = (m : Int) := ⟨v.toNat, by omega⟩
         have hml : m < all.length := by omega
         have hal7 := own_off HAL.out F7.out.tc (QS.off (r := (.ok () s : Res Unit)) HH.out (by decide))
         obtain ⟨ad2, y, hA2, hbl2, hy, hc2⟩ := (Reads.of_own hal7).num hml
         subst hA2
         have hA8 := (F7.out.sz.2.alloc (.cells #[.int .i64 y] 2)).drew
         have hr8 : Reads (w7.alloc (.cells #[.int .i64 y] 2)).drew (w7.alloc (.cells #[.int .i64 y] 2)).heap.size 1 (some ⟨w7.heap.size, 0, none⟩) 1 (nums [y]) := reads_block (t := 2) (heap_alloc_new _ _) rfl
         obtain ⟨y0, y1, y2, y3, yf0, yf1, -⟩ := Blk.four (t := 70) F7.out.fb
         have Y1 := (Blk.four (t := 70) (F7.out.fb.alloc (.cells #[.int .i64 y] 2))).2.1
         have HC2 : (w7.alloc (.cells #[.int .i64 y] 2)).cell? (ad2.add m) = some (.int .i64 y) := (World.cell?_alloc_lt w7 _ _ (by rw [block_of_add]; exact hbl2)).trans hc2
         have hpl : (psz all out').length = out'.length := by simp [psz]
         have hszz := F7.out.size
         have HY := Lib.hid hy
         clear hal7 hy
         rw [hpl] at hA8
         go_region_law (refine step_append_any _ rfl (.tmp 86) (.tmp 91) 46 rfl (w.heap.size + 2) 2 i6 _ 1 8 Tryz.underlying46 h60 h61 h62 h63 rfl (by omega) (.slice FA out'.length FC) out'.length _ rfl hA8 (w7.alloc (.cells #[.int .i64 y] 2)).heap.size (some ⟨w7.heap.size, 0, none⟩) 1 1 (nums [y]) rfl hr8 nums_one (by simp only [maxLen]; omega) (by omega) (by simp; omega) ?_; intro v9 w9 hown9 hg9 hat9; obtain ⟨A9, c9, rfl⟩ := own_shape hown9; have hm9 := F7.out.mid (below_drewN (bone w7 (.cells #[.int .i64 y] 2)) 1) hg9 (fun q hq => (own_in F7.out.sz.2 hq).1); have HM9 := Lib.hid hm9; have d91 := (Blk.four (t := 70) hm9).2.1; have d9f := hm9.frozen 1; have F9 := Lib.hid (F7.out.right (v := y) hgl (below_drewN (bone w7 (.cells #[.int .i64 y] 2)) 1) (by rw [hpl]; exact hown9) hg9 hat9); clear hown9 hg9 hat9 hm9)
         all_goals
          go_wp2_with fail
          go_roundw
          case measure => simp [intOf]; omega
          case rel =>
           have hl : (out' ++ [(m : Int)]).length = out'.length + 1 := by simp
           refine ⟨i + 1, A6, c6, A9, c9, out' ++ [(m : Int)], by go_num, ?_⟩
           rw [hl]
           exact ScQ.next F9.out HR.out HSN.out HPN.out HNIN.out HY.out HLEN.out hlt (by omega) HRAN.out ⟨by omega, by omega⟩
  ·have hltI : decide ((i : Int) < (k : Int)) = false := decide_eq_false (by omega)
   obtain rfl : i = k := by have := hsc.out.le; omega
   obtain ⟨R, hR⟩ : ∃ R, (r1.bind fun _ s => pscope en ee all.length i [] s) = R := ⟨_, rfl⟩
   obtain ⟨hf2, hlen, hle, hran, hok, hbad⟩ := hsc.out
   rw [hR] at hf2 hok hbad
   have HF := Lib.hid hf2
   have HR := Lib.hid hR
   have HOK := Lib.hid hok
   have hz1 : ∀ z ∈ psz all out, 1 ≤ z ∧ z ≤ 4611686018427387904 := fun z hz => by
    obtain ⟨v, hv, rfl⟩ := List.mem_map.1 hz
    obtain ⟨v0, v1⟩ := hran v hv
    have hvl : v.toNat < all.length := by omega
    rw [List.getD_eq_getElem?_getD, List.getElem?_eq_getElem hvl]
    exact ha1 _ (List.getElem_mem _)
   have HZ1 := Lib.hid hz1
   have hol : out.length ≤ 1000000 := by
    cases R with
    | bad e x => have := hbad e x rfl; omega
    | ok o2 s2 => have := (hok o2 s2 rfl).2; omega
   obtain ⟨lv, bad_, badAt, big, bigAt, told, hqb, -, -⟩ := hf2.qs.blk
   have c3 := (QB.cells hqb).2.2.2.1
   clear hsc hf2 hR hran hlen hok hbad hle hz1 hqb
   go_upto_if 47 with fail
   repeat (first | (exact qfun_count HF.out hgl HH.out hee HZ1.out hol ht0 ht1 HE1.out HKV.out HV1.out HR.out (fun o s h => (HOK.out o s h).1) hkb HSH.out hshl) | go_step)
end Go.Proofs.YtjpkkkphhaajgaaGreatDoor.wcp
/- The document's reader: the next function. -/
namespace Go.Proofs.YtjpkkkphhaajgaaGreatDoor.wcp
open Go Go.RowKit Go.ChangeShapes Go.WideShapes Go.ChangeAt Go.Maps Go.Proofs.YtjpkkkphhaajgaaGreatDoor.words Go.Proofs.YtjpkkkphhaajgaaGreatDoor.scn
variable {w : World} {gr : Nat} {en ee : Int} {sv : Value} {α : Type} {r : Res α}
set_option maxRecDepth 100000 in
set_option maxHeartbeats 8000000 in
theorem qfun_any {s : Ps} (h : Qok w gr en ee s sv) (hee : ee ≠ 0) (A : Option Addr) (c0 : Nat) (all : List Int) (hal : w.ownsRow 0 2 1 (.slice A all.length c0) all.length (nums all)) (ha1 : ∀ y ∈ all, 1 ≤ y ∧ y ≤ 4611686018427387904) (hall : all.length ≤ 1000000)
 (ht0 : 0 ≤ s.told) (ht1 : s.told ≤ 1000000) (hsh : QSh w sv s.sh) (hshl : s.sh.length ≤ 900000) :
 Calls Tryz.prog 90 #[.pointer (some ⟨gr, 0, none⟩), .slice A all.length c0] w fun e w' => QFunR w gr en ee all s sv e w' := by
 obtain ⟨iF, hF0, hF1, hF2, hF3⟩ := info_parts infoQF
 obtain ⟨iL, hL0, hL1, hL2, hL3⟩ := info_parts infoQL
 obtain ⟨i6, h60, h61, h62, h63⟩ := info_parts info64
 obtain ⟨wa, hwa⟩ : ∃ wa, (w.alloc (.cells #[.slice none 0 0, .slice none 0 0, .int .i64 0, .slice none 0 0] 70)).alloc (.cells #[.slice none 0 0, .slice none 0 0, .int .i64 0, .slice none 0 0] 70) = wa := ⟨_, rfl⟩
 have hba : Below w.heap.size w wa := by rw [← hwa]; exact (bone w _).trans ((bone _ _).mono (by simp))
 have hza : wa.heap.size = w.heap.size + 2 := by rw [← hwa]; simp
 have hrb : Blk wa w.heap.size 70 #[.slice none 0 0, .slice none 0 0, .int .i64 0, .slice none 0 0] := by rw [← hwa]; exact Blk.under (Blk.new _ _ _) (bone _ _)
 have hfb : Blk wa (w.heap.size + 1) 70 #[.slice none 0 0, .slice none 0 0, .int .i64 0, .slice none 0 0] := by
  rw [← hwa]
  have := Blk.new (w.alloc (.cells #[.slice none 0 0, .slice none 0 0, .int .i64 0, .slice none 0 0] 70)) 70 #[.slice none 0 0, .slice none 0 0, .int .i64 0, .slice none 0 0]
  simpa using this
 have hnum := qnum_un (show QS wa gr en ee sv (.ok () s : Res Unit) from h.below hba) hee (-4611686018427387904) 4611686018427387904
 have hgl : gr < w.heap.size := QS.lt (r := (.ok () s : Res Unit)) h
 have HAL := Lib.hid hal
 have HSH := Lib.hid hsh
 have HH := Lib.hid h
 have HBA := Lib.hid hba
 have HZA := Lib.hid hza
 have HRB := Lib.hid hrb
 have HFB := Lib.hid hfb
 clear h hal hsh hba hza hrb hfb
 go_enter Tryz.func90, Tryz.ntmps90
 go_wp2_with fail
 refine hnum.mono ?_
 rintro e w1 ⟨a, xa, rfl, t1, hs1, hv1, hz1⟩
 clear hnum hwa
 have HR1 : Hid (a.natAbs ≤ 4611686018427387904 ∧ -4611686018427387904 ≤ a ∧ a ≤ 4611686018427387904) := by
  obtain ⟨h1, h2⟩ := NumU.range hv1 hz1 (by omega) (by omega)
  exact ⟨by omega, h1, h2⟩
 rw [Res.bind_ok] at hs1 hv1 hz1
 obtain ⟨r1, hr1⟩ : ∃ r1, pnum en ee (-4611686018427387904) 4611686018427387904 s = r1 := ⟨_, rfl⟩
 rw [hr1] at hs1 hv1 hz1
 obtain ⟨k, hk⟩ : ∃ k : Nat, a.natAbs = k := ⟨_, rfl⟩
 have HK : Hid (∀ e x, r1 = .bad e x → k = 0 ∧ a = 0) := fun e x he => by
  have := hz1 (by rw [he]; rfl)
  exact ⟨by omega, this⟩
 have HS0 : ScQ w w1 gr en ee all k r1 sv (.slice none 0 0) (.slice none 0 0) [] 0 := by
  refine ⟨⟨t1.blk HRB.out (by omega), t1.blk HFB.out (by omega), ⟨⟨none, 0, rfl⟩, World.ownsRow_nil _ _ _ _⟩, ⟨⟨none, 0, rfl⟩, World.ownsRow_nil _ _ _ _⟩, (fun q h _ => by cases h), ?_, ?_⟩, rfl, Nat.zero_le _, (fun v hv => by cases hv), ?_, ?_⟩
  ·exact (Tch.of_below HBA.out (fun k => k = gr)).trans t1 fun _ _ h => h
  ·exact QS.same hs1 (fun a s h => ⟨[], by rw [h]; rfl⟩) (fun e x h => by rw [h]; rfl)
  ·intro out' s' he
   cases r1 with
   | bad e x => cases he
   | ok v s2 =>
     rw [Res.bind_ok] at he
     injection he with h1 h2
     refine ⟨h1.symm, ?_⟩
     rw [← h2]
     have := pnum_len hr1
     have := (Qok.left HH.out).1
     omega
  ·intro e x he
   cases r1 with
   | bad e x => exact (HK.out e x rfl).1
   | ok v s2 => cases he
 have hs0 : Hid (ScQ w w1 gr en ee all k r1 sv (.slice none 0 0) (.slice none 0 0) [] 0) := HS0
 have HV1 := Lib.hid hv1
 have HE1 := Lib.hid hr1
 have HKV : Hid (∀ v s', r1 = .ok v s' → v.1.natAbs = k) := fun v s' h => by rw [← (hv1 v s' h).1]; exact hk
 have hkb : k ≤ 4611686018427387904 := by have := HR1.out; omega
 clear t1 hs1 hz1 HS0 hv1 hr1
 go_upto_if 35 with fail
 refine wp_cond_split rfl (fun h => ?_) (fun h => ?_)
 ·have ha : a < 0 := of_decide_eq_true h
  have HKA : Hid (-a = (k : Int)) := by unfold Hid; omega
  clear h
  repeat (first | (exact qfun_scope hs0.out hgl HH.out hee HAL.out ha1 hall ht0 ht1 HE1.out HKV.out HV1.out hkb HSH.out hshl) | (simp only [HKA.out]) | go_step | dsimp only)
 ·have ha : ¬ a < 0 := of_decide_eq_false h
  obtain rfl : a = (k : Int) := by omega
  clear h
  repeat (first | (exact qfun_scope hs0.out hgl HH.out hee HAL.out ha1 hall ht0 ht1 HE1.out HKV.out HV1.out hkb HSH.out hshl) | go_step | dsimp only)
end Go.Proofs.YtjpkkkphhaajgaaGreatDoor.wcp
/- The document's file while it is read. -/
namespace Go.Proofs.YtjpkkkphhaajgaaGreatDoor.wcp
open Go Go.RowKit Go.ChangeShapes Go.WideShapes Go.ChangeAt Go.Maps Go.Proofs.YtjpkkkphhaajgaaGreatDoor.words Go.Proofs.YtjpkkkphhaajgaaGreatDoor.scn
theorem told_words {bs : List UInt8} {l : List Wd} {bad : Int} (h : scn.Told bs l bad) : ∀ x ∈ l, x.1.length ≤ bs.length := by
 obtain ⟨z, hc, hz⟩ := h
 clear hz
 generalize 0 = a at hc
 induction hc with
 | nil a => exact fun x hx => by cases hx
 | cons h1 hk ih =>
   intro x hx
   rcases List.mem_cons.1 hx with rfl | hx
   ·have := h1.word_at.2.1.len
    dsimp only
    rw [sub_len h1.word_at.2.1.len]
    omega
   ·exact ih x hx
variable {w wq w' : World} {gf gr : Nat} {en ee : Int} {sv : Value} {α β : Type} {r : Res α} {r' : Res β}
theorem QSh.keep {w w' : World} {S : Nat → Prop} {sv : Value} {sh : List (List Int × List (List Int × Int))} (h : QSh w sv sh) (ht : Tch w w' S) (h1 : Off w 0 S 2) (h2 : Off w 0 S 137) (h3 : ∀ q, sv.ownBlock = some q → ¬ S q) : QSh w' sv sh := by
 obtain ⟨fs, hL, L, hM, hs, ho, hp⟩ := h
 exact ⟨fs, hL, L, hM, hs, ht.own ho h3, fun p hm => (hp p hm).tch ht h1 h2⟩
theorem QSh.empty (w : World) : QSh w (.slice none 0 0) [] := ⟨[], rfl, [], rfl, ⟨none, 0, rfl⟩, World.ownsRow_nil _ _ _ _, fun p hp => by cases hp⟩
theorem QSh.own {w : World} {sv : Value} {sh : List (List Int × List (List Int × Int))} (h : QSh w sv sh) : ∃ n xs, w.ownsRow 0 70 4 sv n xs := by
 obtain ⟨fs, hL, L, hM, hs, ho, hp⟩ := h
 exact ⟨_, _, ho⟩
/-- the file's block, its rows, the reader -/
structure QF (w wq : World) (gf gr : Nat) (en ee : Int) (sv : Value) (name : List UInt8) (kk : Int) (vz : Value) (zs : List Int) (vf : Value) (V : List QT) (r : Res α) : Prop where
 fb : Blk wq gf 49 #[strV name, .int .i64 kk, vz, vf]
 sz : Row64 wq w.heap.size vz zs
 fs : ∃ A c, vf = .slice A V.length c
 fo : wq.ownsRow w.heap.size 70 4 vf V.length (qcells V)
 fv : ∀ p ∈ V, QFn wq p.1.1 p.1.2.1 p.1.2.2.1 p.1.2.2.2 p.2
 bw : Below w.heap.size w wq
 qs : QS wq gr en ee sv r
 hf : w.heap.size ≤ gf
 hg : w.heap.size ≤ gr
 sb : ∀ q, sv.ownBlock = some q → w.heap.size ≤ q
 ne : ∀ q, vf.ownBlock = some q → sv.ownBlock = some q → False
variable {name : List UInt8} {kk : Int} {vz vf : Value} {zs : List Int} {V : List QT}
theorem QF.re (h : QF w wq gf gr en ee sv name kk vz zs vf V r) (hq : QS wq gr en ee sv r') : QF w wq gf gr en ee sv name kk vz zs vf V r' := ⟨h.fb, h.sz, h.fs, h.fo, h.fv, h.bw, hq, h.hf, h.hg, h.sb, h.ne⟩
theorem QF.nef (h : QF w wq gf gr en ee sv name kk vz zs vf V r) : gf ≠ gr := by
 obtain ⟨_, _, _, _, _, _, hr, _⟩ := h.qs.blk
 exact Blk.ne_ h.fb hr (by decide)
theorem QF.tch (h : QF w wq gf gr en ee sv name kk vz zs vf V r) (ht : Tch wq w' (fun k => k = gr)) (hq : QS w' gr en ee sv r') : QF w w' gf gr en ee sv name kk vz zs vf V r' :=
 ⟨ht.blk h.fb h.nef, h.sz.tch ht (h.qs.off (by decide)), h.fs, own_off h.fo ht (h.qs.off (by decide)), fun p hp => (h.fv p hp).tch ht (h.qs.off (by decide)) (h.qs.off (by decide)), h.bw.trans (ht.below h.bw.size fun i hi => by have := h.hg; omega), hq, h.hf, h.hg, h.sb, h.ne⟩
theorem QF.drew {n : Nat} (h : QF w wq gf gr en ee sv name kk vz zs vf V r) : QF w (wq.drewN n) gf gr en ee sv name kk vz zs vf V r :=
 h.tch ((Tch.of_below (below_drewN (Below.refl _ _) n) _)) (h.qs.below (below_drewN (Below.refl _ _) n))
/-- behind a function -/
theorem QF.fun_ {sv' : Value} (h : QF w wq gf gr en ee sv name kk vz zs vf V r) {n : Nat} {xs : List Value} (hso : wq.ownsRow 0 70 4 sv n xs) (ht : Tch wq w' (fun k => k = gr ∨ some k = sv.ownBlock)) (hsv : ∀ k, sv'.ownBlock = some k → sv.ownBlock = some k ∨ wq.heap.size ≤ k) (hq : QS w' gr en ee sv' r') :
 QF w w' gf gr en ee sv' name kk vz zs vf V r' := by
 obtain ⟨_, _, _, _, _, _, hr, _⟩ := h.qs.blk
 have hty : ∀ (B : Nat) (ty : TypeId), 173 ≠ ty → 70 ≠ ty → Off wq B (fun k => k = gr ∨ some k = sv.ownBlock) ty := fun B ty h1 h2 k hk => .inr fun cs hb => by
  rcases hk with hk | hk
  ·exact Blk.ne_ hr hb h1 hk.symm
  ·exact own_blk_ne hso hb h2 hk.symm
 refine ⟨ht.blk h.fb ?_, h.sz.tch ht (hty _ _ (by decide) (by decide)), h.fs, ht.own h.fo fun g hg hk => ?_, fun p hp => (h.fv p hp).tch ht (hty _ _ (by decide) (by decide)) (hty _ _ (by decide) (by decide)), h.bw.trans (ht.below h.bw.size fun i hi hk => ?_), hq, h.hf, h.hg, fun q hq => ?_, fun q h1 h2 => ?_⟩
 ·rintro (hk | hk)
  ·exact h.nef hk
  ·exact own_blk_ne hso h.fb (by decide) hk.symm
 ·rcases hk with hk | hk
  ·exact own_blk_ne h.fo hr (by decide) (by rw [hg, hk])
  ·exact h.ne g hg hk.symm
 ·rcases hk with hk | hk
  ·have := h.hg; omega
  ·have := h.sb i hk.symm; omega
 ·rcases hsv q hq with h1 | h1
  ·exact h.sb q h1
  ·have := h.bw.size; omega
 ·rcases hsv q h2 with h3 | h3
  ·exact h.ne q h1 h3
  ·have := (own_in h.fo h1).2; omega
theorem QF.up {S : Nat → Prop} (h : QF w wq gf gr en ee sv name kk vz zs vf V r) (ht : Tch wq w' S) (hS : ∀ k, S k → w.heap.size ≤ k ∧ k ≠ gr ∧ ∀ cs, ¬ Blk wq k 175 cs) : Below w.heap.size w w' ∧ QS w' gr en ee sv r :=
 ⟨h.bw.trans (ht.below h.bw.size fun i hi hk => by have := (hS i hk).1; omega), h.qs.tch ht (fun hk => (hS _ hk).2.1 rfl) fun k hk => (hS k hk).2.2⟩
/-- its name -/
theorem QF.name_ (h : QF w wq gf gr en ee sv name kk vz zs vf V r) (u : List UInt8) : QF w (wq.setCell ⟨gf, 0, none⟩ (strV u)) gf gr en ee sv u kk vz zs vf V r := by
 have T : Tch wq (wq.setCell ⟨gf, 0, none⟩ (strV u)) (fun k => k = gf) := Tch.put (S := fun k => k = gf) (Tch.refl wq _) (p := ⟨gf, 0, none⟩) _ rfl
 have hty : ∀ (B : Nat) (ty : TypeId), 49 ≠ ty → Off wq B (fun k => k = gf) ty := fun B ty h1 k hk => .inr fun cs hb => Blk.ne_ h.fb hb h1 hk.symm
 obtain ⟨hB, hQ⟩ := h.up T fun k hk => ⟨by have := h.hf; omega, by rw [hk]; exact h.nef, fun cs hb => Blk.ne_ h.fb hb (by decide) hk.symm⟩
 exact ⟨h.fb.set_ 0 _, h.sz.tch T (hty _ _ (by decide)), h.fs, own_off h.fo T (hty _ _ (by decide)), fun p hp => (h.fv p hp).tch T (hty _ _ (by decide)) (hty _ _ (by decide)), hB, hQ, h.hf, h.hg, h.sb, h.ne⟩
/-- its bound -/
theorem QF.bound (h : QF w wq gf gr en ee sv name kk vz zs vf V r) (u : Int) : QF w (wq.setCell ⟨gf, 1, none⟩ (.int .i64 u)) gf gr en ee sv name u vz zs vf V r := by
 have T : Tch wq (wq.setCell ⟨gf, 1, none⟩ (.int .i64 u)) (fun k => k = gf) := Tch.put (S := fun k => k = gf) (Tch.refl wq _) (p := ⟨gf, 1, none⟩) _ rfl
 have hty : ∀ (B : Nat) (ty : TypeId), 49 ≠ ty → Off wq B (fun k => k = gf) ty := fun B ty h1 k hk => .inr fun cs hb => Blk.ne_ h.fb hb h1 hk.symm
 obtain ⟨hB, hQ⟩ := h.up T fun k hk => ⟨by have := h.hf; omega, by rw [hk]; exact h.nef, fun cs hb => Blk.ne_ h.fb hb (by decide) hk.symm⟩
 exact ⟨h.fb.set_ 1 _, h.sz.tch T (hty _ _ (by decide)), h.fs, own_off h.fo T (hty _ _ (by decide)), fun p hp => (h.fv p hp).tch T (hty _ _ (by decide)) (hty _ _ (by decide)), hB, hQ, h.hf, h.hg, h.sb, h.ne⟩
/-- a block's row grows -/
theorem QF.mid {wb w6 : World} {row : Option Nat} (h : QF w wq gf gr en ee sv name kk vz zs vf V r) (hb : Below wq.heap.size wq wb) (hg : wb.grownBy w6 row) (hr : row ≠ some gf) : Blk w6 gf 49 #[strV name, .int .i64 kk, vz, vf] :=
 (h.fb.under hb).grown hg fun e => hr e.symm
/-- a size is appended, while there are no functions -/
theorem QF.size_ {wb w6 : World} {A6 : Option Addr} {c6 : Nat} {v : Int} (h : QF w wq gf gr en ee sv name kk vz zs (.slice none 0 0) [] r) (hb : Below wq.heap.size wq wb)
 (hown : w6.ownsRow w.heap.size 2 1 (.slice A6 (zs.length + 1) c6) (zs.length + 1) (nums zs ++ nums [v])) (hg : wb.grownBy w6 vz.ownBlock) :
 QF w (w6.setCell ⟨gf, 2, none⟩ (.slice A6 (zs.length + 1) c6)) gf gr en ee sv name kk (.slice A6 (zs.length + 1) c6) (zs ++ [v]) (.slice none 0 0) [] r := by
 have hng : vz.ownBlock ≠ some gf := own_blk_ne h.sz.2 h.fb (by decide)
 have hm := h.mid hb hg hng
 have T1 : Tch wq w6 (fun k => some k = vz.ownBlock) := ((Tch.of_below hb (fun k => some k = vz.ownBlock)).trans (Tch.of_grown hg (S := fun k => some k = vz.ownBlock) fun q _ hq => hq) fun _ _ h => h)
 have T2 : Tch w6 (w6.setCell ⟨gf, 2, none⟩ (.slice A6 (zs.length + 1) c6)) (fun k => k = gf) := Tch.put (S := fun k => k = gf) (Tch.refl w6 _) (p := ⟨gf, 2, none⟩) _ rfl
 have T : Tch wq (w6.setCell ⟨gf, 2, none⟩ (.slice A6 (zs.length + 1) c6)) (fun k => some k = vz.ownBlock ∨ k = gf) := (T1.mono (S' := fun k => some k = vz.ownBlock ∨ k = gf) fun k _ h => Or.inl h).trans T2 fun k _ h => Or.inr h
 obtain ⟨_, _, _, _, _, _, hr, _⟩ := h.qs.blk
 obtain ⟨hB, hQ⟩ := h.up T fun k hk => by
  rcases hk with hk | hk
  ·exact ⟨(own_in h.sz.2 hk.symm).1, fun e => own_blk_ne h.sz.2 hr (by decide) (by rw [← hk, e]), fun cs hb => own_blk_ne h.sz.2 hb (by decide) hk.symm⟩
  ·exact ⟨by have := h.hf; omega, by rw [hk]; exact h.nef, fun cs hb => Blk.ne_ h.fb hb (by decide) hk.symm⟩
 have hl : (zs ++ [v]).length = zs.length + 1 := by simp
 refine ⟨hm.set_ 2 _, ⟨⟨A6, c6, by rw [hl]⟩, ?_⟩, ⟨none, 0, rfl⟩, World.ownsRow_nil _ _ _ _, (fun p hp => by cases hp), hB, hQ, h.hf, h.hg, h.sb, h.ne⟩
 rw [hl, show nums (zs ++ [v]) = nums zs ++ nums [v] by simp [nums]]
 exact own_off hown T2 fun k hk => .inr fun cs hb => by subst hk; exact Blk.ne_ hm hb (by decide) rfl
/-- a function is appended -/
theorem QF.add {wb w6 : World} {A6 : Option Addr} {c6 : Nat} {v1 v2 v4 : Value} {o : Int} {f : Raw} (h : QF w wq gf gr en ee sv name kk vz zs vf V r) (hfn : QFn wq v1 v2 o v4 f) (hb : Below wq.heap.size wq wb)
 (hown : w6.ownsRow w.heap.size 70 4 (.slice A6 (V.length + 1) c6) (V.length + 1) (qcells V ++ [v1, v2, .int .i64 o, v4])) (hg : wb.grownBy w6 vf.ownBlock) (hat : (Value.slice A6 (V.length + 1) c6).ownBlock = vf.ownBlock ∨ (Value.slice A6 (V.length + 1) c6).ownBlock = some wb.heap.size)
 (hsz : ∀ q, sv.ownBlock = some q → q < wq.heap.size) :
 QF w (w6.setCell ⟨gf, 3, none⟩ (.slice A6 (V.length + 1) c6)) gf gr en ee sv name kk vz zs (.slice A6 (V.length + 1) c6) (V ++ [((v1, v2, o, v4), f)]) r ∧
  (∀ sh, QSh wq sv sh → QSh (w6.setCell ⟨gf, 3, none⟩ (.slice A6 (V.length + 1) c6)) sv sh) := by
 have hng : vf.ownBlock ≠ some gf := own_blk_ne h.fo h.fb (by decide)
 have hm := h.mid hb hg hng
 have T1 : Tch wq w6 (fun k => some k = vf.ownBlock) := ((Tch.of_below hb (fun k => some k = vf.ownBlock)).trans (Tch.of_grown hg (S := fun k => some k = vf.ownBlock) fun q _ hq => hq) fun _ _ h => h)
 have T2 : Tch w6 (w6.setCell ⟨gf, 3, none⟩ (.slice A6 (V.length + 1) c6)) (fun k => k = gf) := Tch.put (S := fun k => k = gf) (Tch.refl w6 _) (p := ⟨gf, 3, none⟩) _ rfl
 have T : Tch wq (w6.setCell ⟨gf, 3, none⟩ (.slice A6 (V.length + 1) c6)) (fun k => some k = vf.ownBlock ∨ k = gf) := (T1.mono (S' := fun k => some k = vf.ownBlock ∨ k = gf) fun k _ h => Or.inl h).trans T2 fun k _ h => Or.inr h
 obtain ⟨_, _, _, _, _, _, hr, _⟩ := h.qs.blk
 obtain ⟨hB, hQ⟩ := h.up T fun k hk => by
  rcases hk with hk | hk
  ·exact ⟨(own_in h.fo hk.symm).1, fun e => own_blk_ne h.fo hr (by decide) (by rw [← hk, e]), fun cs hb => own_blk_ne h.fo hb (by decide) hk.symm⟩
  ·exact ⟨by have := h.hf; omega, by rw [hk]; exact h.nef, fun cs hb => Blk.ne_ h.fb hb (by decide) hk.symm⟩
 have hty : ∀ (B : Nat) (ty : TypeId), 70 ≠ ty → 49 ≠ ty → Off wq B (fun k => some k = vf.ownBlock ∨ k = gf) ty := fun B ty h1 h2 k hk => .inr fun cs hb => by
  rcases hk with hk | hk
  ·exact own_blk_ne h.fo hb h1 hk.symm
  ·exact Blk.ne_ h.fb hb h2 hk.symm
 have hl : (V ++ [(((v1, v2, o, v4), f) : QT)]).length = V.length + 1 := by simp
 refine ⟨⟨hm.set_ 3 _, h.sz.tch T (hty _ _ (by decide) (by decide)), ⟨A6, c6, by rw [hl]⟩, ?_, fun p hp => ?_, hB, hQ, h.hf, h.hg, h.sb, fun q h1 h2 => ?_⟩, fun sh hs => hs.keep T (hty _ _ (by decide) (by decide)) (hty _ _ (by decide) (by decide)) fun q hq hk => ?_⟩
 ·rw [hl, qc_snoc]
  exact own_off hown T2 fun k hk => .inr fun cs hb => by subst hk; exact Blk.ne_ hm hb (by decide) rfl
 ·rcases List.mem_append.1 hp with hp | hp
  ·exact (h.fv p hp).tch T (hty _ _ (by decide) (by decide)) (hty _ _ (by decide) (by decide))
  ·rw [List.mem_singleton.1 hp]; exact hfn.tch T (hty _ _ (by decide) (by decide)) (hty _ _ (by decide) (by decide))
 ·rcases hat with e | e
  ·rw [e] at h1; exact h.ne q h1 h2
  ·rw [e] at h1
   injection h1 with h1
   have := hsz q h2
   have := hb.size
   omega
 ·rcases hk with hk | hk
  ·exact h.ne q hk.symm hq
  ·obtain ⟨n, xs, ho⟩ := hs.own
   exact own_blk_ne ho h.fb (by decide) (by rw [hq, hk])
/-- something is appended behind what was wrong -/
theorem QF.add0 {wb w6 : World} {u : Value} (h : QF w wq gf gr en ee sv name kk vz zs vf V r) (hb : Below wq.heap.size wq wb) (hg : wb.grownBy w6 vf.ownBlock) :
 Below w.heap.size w (w6.setCell ⟨gf, 3, none⟩ u) ∧ QS (w6.setCell ⟨gf, 3, none⟩ u) gr en ee sv r := by
 have hng : vf.ownBlock ≠ some gf := own_blk_ne h.fo h.fb (by decide)
 have T1 : Tch wq w6 (fun k => some k = vf.ownBlock) := ((Tch.of_below hb (fun k => some k = vf.ownBlock)).trans (Tch.of_grown hg (S := fun k => some k = vf.ownBlock) fun q _ hq => hq) fun _ _ h => h)
 have T2 : Tch w6 (w6.setCell ⟨gf, 3, none⟩ u) (fun k => k = gf) := Tch.put (S := fun k => k = gf) (Tch.refl w6 _) (p := ⟨gf, 3, none⟩) _ rfl
 have T : Tch wq (w6.setCell ⟨gf, 3, none⟩ u) (fun k => some k = vf.ownBlock ∨ k = gf) := (T1.mono (S' := fun k => some k = vf.ownBlock ∨ k = gf) fun k _ h => Or.inl h).trans T2 fun k _ h => Or.inr h
 obtain ⟨_, _, _, _, _, _, hr, _⟩ := h.qs.blk
 exact h.up T fun k hk => by
  rcases hk with hk | hk
  ·exact ⟨(own_in h.fo hk.symm).1, fun e => own_blk_ne h.fo hr (by decide) (by rw [← hk, e]), fun cs hb => own_blk_ne h.fo hb (by decide) hk.symm⟩
  ·exact ⟨by have := h.hf; omega, by rw [hk]; exact h.nef, fun cs hb => Blk.ne_ h.fb hb (by decide) hk.symm⟩
/-- what the sizes' reading leaves, with j functions behind it -/
def rfs (en ee : Int) (R1 : Res (List Int)) (j : Nat) : Res (List Raw) := R1.bind fun zs s => pfuns en ee zs j [] s
theorem rfs_snoc {R1 : Res (List Int)} {j : Nat} {out : List Raw} {s : Ps} {zs : List Int} (h1 : ∀ o s, R1 = .ok o s → o = zs) (h : rfs en ee R1 j = .ok out s) : rfs en ee R1 (j + 1) = (pfun en ee zs s).bind fun f s => .ok (out ++ [f]) s := by
 unfold rfs at h ⊢
 cases R1 with
 | bad e x => cases h
 | ok o s0 =>
   obtain rfl := h1 o s0 rfl
   rw [Res.bind_ok] at h ⊢
   rw [pfuns_snoc, h]; rfl
theorem rfs_bad {R1 : Res (List Int)} {j : Nat} {e x : Int} (h : rfs en ee R1 j = .bad e x) : ∀ n, j ≤ n → rfs en ee R1 n = .bad e x := by
 intro n hn
 unfold rfs at h ⊢
 cases R1 with
 | bad e' x' => exact h
 | ok o s0 =>
   rw [Res.bind_ok] at h ⊢
   exact pfuns_bad h n hn
theorem rfs_body {R1 : Res (List Int)} {cn : Nat} {name : List UInt8} {kk : Int} {zs : List Int} {P : Res Fil} (hP : P = R1.bind fun sizes s => (pfuns en ee sizes cn [] s).bind fun fs s => .ok ⟨name, kk, sizes, fs⟩ s) (h1 : ∀ o s, R1 = .ok o s → o = zs) :
 (∀ e x, rfs en ee R1 cn = .bad e x → P = .bad e x) ∧ (∀ out s, rfs en ee R1 cn = .ok out s → P = .ok ⟨name, kk, zs, out⟩ s) := by
 subst hP
 unfold rfs
 cases R1 with
 | bad e' x' =>
   refine ⟨fun e x h => ?_, fun out s h => (by cases h)⟩
   have h : (Res.bad e' x' : Res (List Raw)) = .bad e x := h
   injection h with h2 h3
   rw [h2, h3]; rfl
 | ok o s0 =>
   obtain rfl := h1 o s0 rfl
   rw [Res.bind_ok, Res.bind_ok]
   exact ⟨fun e x h => by rw [h]; rfl, fun out s h => by rw [h]; rfl⟩
end Go.Proofs.YtjpkkkphhaajgaaGreatDoor.wcp
/- The document's reader: its end. -/
namespace Go.Proofs.YtjpkkkphhaajgaaGreatDoor.wcp
open Go Go.RowKit Go.ChangeShapes Go.WideShapes Go.ChangeAt Go.Maps Go.Proofs.YtjpkkkphhaajgaaGreatDoor.words Go.Proofs.YtjpkkkphhaajgaaGreatDoor.scn
variable {w wq : World} {gf gr : Nat} {sv : Value}
noncomputable def rbody : Code := Tryz.f34.body.getD .skip
/-- the document's file stands at g -/
def QFileV (w : World) (B : Nat) (g : Nat) (f : Fil) : Prop :=
 ∃ (vz vf : Value) (V : List QT), V.map (·.2) = f.funs ∧ Blk w g 49 #[strV f.name, .int .i64 f.k, vz, vf] ∧ Row64 w B vz f.sizes ∧ (∃ A c, vf = .slice A V.length c) ∧ w.ownsRow B 70 4 vf V.length (qcells V) ∧ ∀ p ∈ V, QFn w p.1.1 p.1.2.1 p.1.2.2.1 p.1.2.2.2 p.2
def QReadR (w : World) (bs : List UInt8) (wb : Int) (l : List Wd) (e : Ending) (w' : World) : Prop :=
 Below w.heap.size w w' ∧
 match pread (enOf bs wb) (eeOf wb) l with
 | .err er x => e = .returned (.tuple #[.pointer none, .int .i64 x, .int .i64 er])
 | .file f => ∃ g, e = .returned (.tuple #[.pointer (some ⟨g, 0, none⟩), .int .i64 bs.length, .int .i64 0]) ∧ w.heap.size ≤ g ∧ QFileV w' w.heap.size g f
set_option maxRecDepth 1000000 in
set_option maxHeartbeats 8000000 in
theorem qread_bad {er x : Int} {bs : List UInt8} {wb : Int} {l : List Wd} {A : Option Addr} {cap : Nat} (h : Qbad wq gr (enOf bs wb) (eeOf wb) er x sv) (hb : Below w.heap.size w wq) (herr : pread (enOf bs wb) (eeOf wb) l = .err er x)
 {k1 k2 k3 k4 k5 k9 k10 k11 k12 k13 k14 k15 k16 k17 k18 k19 k20 k21 k22 k23 k24 k25 k26 k27 k28 k29 k30 k31 k32 k33 k34 k35 k36 k37 k38 k39 k40 k41 k42 k43 k44 k45 k46 k47 k48 k49 k50 k51 k52 k53 k54 k55 k56 k57 k58 k59 k60 k61 k62 k63 k64 k65 k66 k67 k68 k69 k70 k71 k72 k73 k74 k75 k76 k77 k78 k79 k80 k81 k82 k83 k84 k85 k86 k87 k88 k89 k90 k91 k92 k93 k94 k95 k96 k97 k98 k99 k100 k101 k102 k103 k104 k105 k106 k107 k108 k109 k110 k111 k112 k113 k114 k115 k116 k117 k118 k119 k120 k121 k122 k123 k124 k125 k126 k127 k128 k129 k130 k131 k132 k133 k134 k135 k136 k137 k138 k139 k140 k141 k142 k143 k144 k145 k146 k147 k148 k149 k150 k151 k152 k153 k154 k155 k156 k157 k158 k159 k160 k161 k162 k163 k164 k165 k166 k167 k168 k169 k170 k171 k172 k173 k174 k175 k176 k177 k178 k179 k180 k181 k182 k183 k184 k185 k186 k187 k188 k189 k190 k191 k192 k193 k194 k195 k196 k197 k198 k199 k200 k201 k202 k203 k204 k205 k206 k207 k208 k209 k210 k211 k212 k213 k214 k215 k216 k217 k218 k219 k220 : Value} :
 Code.wp Tryz.prog (sfx 19 rbody) (bodyPost Tryz.prog Tryz.f34 fun e w' => QReadR w bs wb l e w') ⟨#[.slice A bs.length cap, k1, k2, k3, k4, k5, .int .i64 wb, .pointer (some ⟨gr, 0, none⟩), .pointer (some ⟨gf, 0, none⟩), k9, k10, k11, k12, k13, k14, k15, k16, k17, k18, k19, k20, k21, k22, k23, k24, k25, k26, k27, k28, k29, k30, k31, k32, k33, k34, k35, k36, k37, k38, k39, k40, k41, k42, k43, k44, k45, k46, k47, k48, k49, k50, k51, k52, k53, k54, k55, k56, k57, k58, k59, k60, k61, k62, k63, k64, k65, k66, k67, k68, k69, k70, k71, k72, k73, k74, k75, k76, k77, k78, k79, k80, k81, k82, k83, k84, k85, k86, k87, k88, k89, k90, k91, k92, k93, k94, k95, k96, k97, k98, k99, k100, k101, k102, k103, k104, k105, k106, k107, k108, k109, k110, k111, k112, k113, k114, k115, k116, k117, k118, k119, k120, k121, k122, k123, k124, k125, k126, k127, k128, k129, k130, k131, k132, k133, k134, k135, k136, k137, k138, k139, k140, k141, k142, k143, k144, k145, k146, k147, k148, k149, k150, k151, k152, k153, k154, k155, k156, k157, k158, k159, k160, k161, k162, k163, k164, k165, k166, k167, k168, k169, k170, k171, k172, k173, k174, k175, k176, k177, k178, k179, k180, k181, k182, k183, k184, k185, k186, k187, k188, k189, k190, k191, k192, k193, k194, k195, k196, k197, k198, k199, k200, k201, k202, k203, k204, k205, k206, k207, k208, k209, k210, k211, k212, k213, k214, k215, k216, k217, k218, k219, k220], []⟩ wq := by
 conv => arg 2; whnf
 have HQ := Lib.hid h
 have HB := Lib.hid hb
 have HERR := Lib.hid herr
 clear h hb herr
 obtain ⟨lv9, big9, bigAt9, told9, hrx, hex⟩ := HQ.out
 obtain ⟨y0, y1, y2, y3, y4, y5, y6, y7, y8, yf⟩ := QB.cells hrx
 have hneb : (er != 0) = true := by simp [hex]
 have heqb : (er == 0) = false := by simp [hex]
 clear hrx hex yf
 go_wp2_with fail
 go_quiet (fail)
 go_wp2_with fail
 go_ret3
 refine ⟨below_drewN HB.out _, ?_⟩
 rw [HERR.out]
 all_goals rfl
set_option maxRecDepth 1000000 in
set_option maxHeartbeats 8000000 in
theorem qread_end {γ : Type} {r : Res γ} {bs : List UInt8} {wb : Int} {l : List Wd} {A : Option Addr} {cap : Nat} {name : List UInt8} {kk : Int} {vz vf : Value} {zs : List Int} {V : List QT} (h : QF w wq gf gr (enOf bs wb) (eeOf wb) sv name kk vz zs vf V r)
 (hbad : ∀ e x, r = .bad e x → pread (enOf bs wb) (eeOf wb) l = .err e x) (hok : ∀ a s, r = .ok a s → pbody (enOf bs wb) (eeOf wb) ⟨l, none, 0, []⟩ = .ok ⟨name, kk, zs, V.map (·.2)⟩ s) (hwb : wb = -1 ∨ 0 ≤ wb)
 {k1 k2 k3 k4 k5 k9 k10 k11 k12 k13 k14 k15 k16 k17 k18 k19 k20 k21 k22 k23 k24 k25 k26 k27 k28 k29 k30 k31 k32 k33 k34 k35 k36 k37 k38 k39 k40 k41 k42 k43 k44 k45 k46 k47 k48 k49 k50 k51 k52 k53 k54 k55 k56 k57 k58 k59 k60 k61 k62 k63 k64 k65 k66 k67 k68 k69 k70 k71 k72 k73 k74 k75 k76 k77 k78 k79 k80 k81 k82 k83 k84 k85 k86 k87 k88 k89 k90 k91 k92 k93 k94 k95 k96 k97 k98 k99 k100 k101 k102 k103 k104 k105 k106 k107 k108 k109 k110 k111 k112 k113 k114 k115 k116 k117 k118 k119 k120 k121 k122 k123 k124 k125 k126 k127 k128 k129 k130 k131 k132 k133 k134 k135 k136 k137 k138 k139 k140 k141 k142 k143 k144 k145 k146 k147 k148 k149 k150 k151 k152 k153 k154 k155 k156 k157 k158 k159 k160 k161 k162 k163 k164 k165 k166 k167 k168 k169 k170 k171 k172 k173 k174 k175 k176 k177 k178 k179 k180 k181 k182 k183 k184 k185 k186 k187 k188 k189 k190 k191 k192 k193 k194 k195 k196 k197 k198 k199 k200 k201 k202 k203 k204 k205 k206 k207 k208 k209 k210 k211 k212 k213 k214 k215 k216 k217 k218 k219 k220 : Value} :
 Code.wp Tryz.prog (sfx 19 rbody) (bodyPost Tryz.prog Tryz.f34 fun e w' => QReadR w bs wb l e w') ⟨#[.slice A bs.length cap, k1, k2, k3, k4, k5, .int .i64 wb, .pointer (some ⟨gr, 0, none⟩), .pointer (some ⟨gf, 0, none⟩), k9, k10, k11, k12, k13, k14, k15, k16, k17, k18, k19, k20, k21, k22, k23, k24, k25, k26, k27, k28, k29, k30, k31, k32, k33, k34, k35, k36, k37, k38, k39, k40, k41, k42, k43, k44, k45, k46, k47, k48, k49, k50, k51, k52, k53, k54, k55, k56, k57, k58, k59, k60, k61, k62, k63, k64, k65, k66, k67, k68, k69, k70, k71, k72, k73, k74, k75, k76, k77, k78, k79, k80, k81, k82, k83, k84, k85, k86, k87, k88, k89, k90, k91, k92, k93, k94, k95, k96, k97, k98, k99, k100, k101, k102, k103, k104, k105, k106, k107, k108, k109, k110, k111, k112, k113, k114, k115, k116, k117, k118, k119, k120, k121, k122, k123, k124, k125, k126, k127, k128, k129, k130, k131, k132, k133, k134, k135, k136, k137, k138, k139, k140, k141, k142, k143, k144, k145, k146, k147, k148, k149, k150, k151, k152, k153, k154, k155, k156, k157, k158, k159, k160, k161, k162, k163, k164, k165, k166, k167, k168, k169, k170, k171, k172, k173, k174, k175, k176, k177, k178, k179, k180, k181, k182, k183, k184, k185, k186, k187, k188, k189, k190, k191, k192, k193, k194, k195, k196, k197, k198, k199, k200, k201, k202, k203, k204, k205, k206, k207, k208, k209, k210, k211, k212, k213, k214, k215, k216, k217, k218, k219, k220], []⟩ wq := by
 conv => arg 2; whnf
 have HQ := Lib.hid h
 clear h
 cases r with
 | bad er x =>
   have HERR := Lib.hid (hbad er x rfl)
   clear hbad hok
   obtain ⟨lv9, big9, bigAt9, told9, hrx, hex⟩ := (show Qbad _ gr _ _ _ _ sv from HQ.out.qs)
   obtain ⟨y0, y1, y2, y3, y4, y5, y6, y7, y8, yf⟩ := QB.cells hrx
   have hneb : (er != 0) = true := by simp [hex]
   have heqb : (er == 0) = false := by simp [hex]
   clear hrx hex yf
   go_wp2_with fail
   go_quiet (fail)
   go_wp2_with fail
   go_ret3
   refine ⟨below_drewN HQ.out.bw _, ?_⟩
   rw [HERR.out]
   all_goals rfl
 | ok u s =>
   have HPB := Lib.hid (hok u s rfl)
   clear hbad hok
   obtain ⟨lv, badAt, big, bigAt, hr, hw, hg⟩ := (show Qok wq gr _ _ s sv from HQ.out.qs)
   obtain ⟨y0, y1, y2, y3, y4, y5, y6, y7, y8, yf⟩ := QB.cells hr
   have HW := hw
   obtain ⟨-, ⟨hl0, A0, d0, rfl⟩ | ⟨full, p, q, c, hl1, hp, rfl, ho⟩⟩ := hw
   ·have hz0 : decide ((0 : Int) < ((0 : Nat) : Int)) = false := rfl
    rcases hwb with rfl | hwb
    ·have hwi : decide ((0 : Int) ≤ -1) = false := rfl
     have hee : eeOf (-1) = 4 := rfl
     rcases hg with ⟨hb0, rfl⟩ | ⟨x, hb1, rfl, rfl⟩
     ·have HFI : Hid (pread (enOf bs (-1)) (eeOf (-1)) l = .file ⟨name, kk, zs, V.map (·.2)⟩) := (((pread_end HPB.out).2 hl0).2 hee).2 hb0
      clear hr hl0 hb0 hee yf HW
      go_wp2_with fail
      go_ret3
      refine ⟨HQ.out.bw, ?_⟩
      rw [HFI.out]
      exact ⟨gf, rfl, HQ.out.hf, vz, vf, V, rfl, HQ.out.fb, HQ.out.sz, HQ.out.fs, HQ.out.fo, HQ.out.fv⟩
     ·have HERR : Hid (pread (enOf bs (-1)) (eeOf (-1)) l = .err 5 bigAt) := (((pread_end HPB.out).2 hl0).2 hee).1 _ hb1
      clear hr hl0 hb1 hee yf HW
      go_wp2_with fail
      go_quiet (fail)
      go_wp2_with fail
      go_ret3
      refine ⟨below_drewN HQ.out.bw _, ?_⟩
      rw [HERR.out]
      all_goals rfl
    ·have hwi : decide ((0 : Int) ≤ wb) = true := decide_eq_true hwb
     have hwr := qwrong_un (a := ()) (show Qok wq gr _ _ s sv from HQ.out.qs) 11 wb (by decide)
     have HERR : Hid (pread (enOf bs wb) (eeOf wb) l = .err 11 wb) := by
      have e1 := ((pread_end HPB.out).2 hl0).1 (by unfold eeOf; rw [if_neg (by omega)])
      rw [Hid, e1]
      unfold enOf
      rw [if_neg (by omega)]
     clear hr hl0 yf HW hg
     go_wp2_with fail
     refine hwr.mono ?_
     rintro e w8 ⟨⟨v, rfl⟩, hq8, t8⟩
     have HQ := Lib.hid (HQ.out.tch t8 (show QS w8 gr _ _ sv (.bad 11 wb : Res Unit) from hq8))
     clear hwr hq8 t8 y0 y1 y2 y3 y4 y5 y6 y7 y8
     obtain ⟨lv9, big9, bigAt9, told9, hrx, hex⟩ := (show Qbad _ gr _ _ _ _ sv from HQ.out.qs)
     obtain ⟨y0, y1, y2, y3, y4, y5, y6, y7, y8, yf⟩ := QB.cells hrx
     have hneb : ((11 : Int) != 0) = true := by simp [hex]
     have heqb : ((11 : Int) == 0) = false := by simp [hex]
     clear hrx hex yf
     go_wp2_with fail
     go_quiet (fail)
     go_wp2_with fail
     go_ret3
     refine ⟨below_drewN HQ.out.bw _, ?_⟩
     rw [HERR.out]
     all_goals rfl
   ·obtain ⟨wd, hwd⟩ : ∃ wd, full[p]? = some wd := ⟨full[p], List.getElem?_eq_getElem hp⟩
    have hdr : s.l = wd :: full.drop (p + 1) := by
     rw [hl1, List.drop_eq_getElem_cons hp]
     rw [List.getElem?_eq_getElem hp] at hwd
     injection hwd with hwd
     rw [hwd]
    have HERR : Hid (pread (enOf bs wb) (eeOf wb) l = .err 4 wd.2) := (pread_end HPB.out).1 _ _ hdr
    obtain ⟨d0, d1⟩ := wrow_at (Reads.of_own ho) hwd
    have hwr := qwrong_un (a := ()) (show Qok wq gr _ _ s sv from HQ.out.qs) 4 wd.2 (by decide)
    have hz0 : decide ((0 : Int) < ((full.length - p : Nat) : Int)) = true := decide_eq_true (by omega)
    have i1 : (0 : Int) < ((full.length - p : Nat) : Int) := by omega
    clear hr yf HW hg hl1 hdr hwd ho
    go_wp2_with fail
    refine hwr.mono ?_
    rintro e w8 ⟨⟨v, rfl⟩, hq8, t8⟩
    have HQ := Lib.hid (HQ.out.tch t8 (show QS w8 gr _ _ sv (.bad 4 wd.2 : Res Unit) from hq8))
    clear hwr hq8 t8 y0 y1 y2 y3 y4 y5 y6 y7 y8 d0 d1
    obtain ⟨lv9, big9, bigAt9, told9, hrx, hex⟩ := (show Qbad _ gr _ _ _ _ sv from HQ.out.qs)
    obtain ⟨y0, y1, y2, y3, y4, y5, y6, y7, y8, yf⟩ := QB.cells hrx
    have hneb : ((4 : Int) != 0) = true := by simp [hex]
    have heqb : ((4 : Int) == 0) = false := by simp [hex]
    clear hrx hex yf
    go_wp2_with fail
    go_quiet (fail)
    go_wp2_with fail
    go_ret3
    refine ⟨below_drewN HQ.out.bw _, ?_⟩
    rw [HERR.out]
    all_goals rfl
end Go.Proofs.YtjpkkkphhaajgaaGreatDoor.wcp
