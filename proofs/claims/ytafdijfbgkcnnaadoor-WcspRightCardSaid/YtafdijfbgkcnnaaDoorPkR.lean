/- PkR: IntEqI, RtEnd, RtPut, RtCopy, RtMid, RtNew, RtOwn, RtSize, RtOk, one behind the other. -/
import Derived.Test.YtafdijfbgkcnnaaDoorIntEq64
import Derived.Test.YtafdijfbgkcnnaaDoorChecked
import Derived.ProofKit
import Derived.Deep.QuietTactic
import Derived.BigQuiet
import Derived.Test.YtafdijfbgkcnnaaDoorPkL
import Derived.Test.YtafdijfbgkcnnaaDoorPkV
import Derived.Test.YtafdijfbgkcnnaaDoorIdxI
import Derived.Test.YtafdijfbgkcnnaaDoorScRef
/- A contract of slices.Equal over integers (beside the one over int64). -/
namespace Go.Proofs.YtafdijfbgkcnnaaDoor.words
open Go.ChangeShapes Go.WideShapes Go.ChangeAt Go.RowKit
set_option linter.unusedVariables false
theorem equalI_any (A C : Option Addr) (n m a c : Nat) (xs ys : List Int) (w : World) (hn : n ≤ 9223372036854775807) (hm : m ≤ 9223372036854775807) (hx : Reads w w.heap.size 1 A n (nums xs)) (hy : Reads w w.heap.size 1 C m (nums ys)) :
    Calls Tryd.prog 18 #[.slice A n a, .slice C m c] w fun e w' => e = .returned (.bool (eqB xs ys)) ∧ Below w.heap.size w w' := by
  have hlx := nums_len hx
  have hly := nums_len hy
  by_cases hnm : n = m
  · subst hnm
    go_enter Tryd.func18, Tryd.ntmps18
    go_wp2
    go_loopw [13] (fun iv wr => ∃ j : Nat, j ≤ n ∧ iv = .int .i64 j ∧ xs.take j = ys.take j ∧ Below w.heap.size w wr) (fun iv _ => n - (intOf iv).toNat)
    case atStart => exact ⟨0, by omega, rfl, rfl, Below.refl _ _⟩
    case round =>
      obtain ⟨j, hj, rfl, he, hbr⟩ := hrel
      have HE := Lib.hid he
      clear he
      by_cases hlt : j < n
      · obtain ⟨ad, x, rfl, _, hxj, hcx⟩ := (hx.lift hbr).num hlt
        obtain ⟨ad2, y, rfl, _, hyj, hcy⟩ := (hy.lift hbr).num hlt
        have i0 : (0 : Int) ≤ (j : Int) := Int.natCast_nonneg _
        have i1 : (j : Int) < (n : Int) := by omega
        by_cases hxy : x = y
        · have HX := Lib.hid hxj
          have HY := Lib.hid hyj
          have HXY := Lib.hid hxy
          have hb : (x != y) = false := by simp [hxy]
          have hb2 : (x == y) = true := by simp [hxy]
          clear hxj hyj hxy
          go_wp2_with fail
          go_quiet (fail)
          go_wp2
          go_roundw
          case rel =>
            refine ⟨j + 1, by omega, by go_num, ?_, below_drewN hbr _⟩
            rw [List.take_add_one, List.take_add_one, HX.out, HY.out, HE.out, HXY.out]
          case measure => simp [intOf]; omega
        · have HF := Lib.hid (eqB_at hxj hyj hxy)
          have hb : (x != y) = true := by simp [hxy]
          have hb2 : (x == y) = false := by simp [hxy]
          clear hxj hyj hxy
          go_wp2_with fail
          go_quiet (fail)
          go_wp2
          go_ret
          exact ⟨ret_bool HF.out.symm, below_drewN hbr _⟩
      · have HT : Hid (eqB xs ys = true) := by
          have h := HE.out
          rw [List.take_of_length_le (by omega), List.take_of_length_le (by omega)] at h
          exact decide_eq_true h
        go_wp2
        go_ret
        exact ⟨ret_bool HT.out.symm, hbr⟩
  · have HF := Lib.hid (eqB_len (xs := xs) (ys := ys) (by omega))
    have hb : ((n : Int) != (m : Int)) = true := by simp; omega
    have hb2 : ((n : Int) == (m : Int)) = false := by simp; omega
    clear hnm
    go_enter Tryd.func18, Tryd.ntmps18
    go_wp2
    go_ret
    exact ⟨ret_bool HF.out.symm, Below.refl _ _⟩
end Go.Proofs.YtafdijfbgkcnnaaDoor.words
/- WcspRight, from behind: the last three statements. -/
namespace Go.Proofs.YtafdijfbgkcnnaaDoor.wcp
open Go Go.RowKit Go.ChangeShapes Go.WideShapes Go.ChangeAt Go.Maps Go.Proofs.YtafdijfbgkcnnaaDoor.words Go.Proofs.YtafdijfbgkcnnaaDoor.scn
set_option linter.unusedVariables false
noncomputable def wrbody : Code := Tryd.f8.body.getD .skip
set_option maxRecDepth 1000000 in
set_option maxHeartbeats 8000000 in
theorem wr_end {w wt : World} {g : Nat} {name : List UInt8} {k : Int} {SA : Option Addr} {sc : Nat} {sizes scope : List Int} {fb fc : Nat} {CA : Option Addr} {cc : Nat} {tp : Option Addr} {T : Option TpH} {R : Int}
    (h : OneF wt g name k SA sc sizes fb fc CA scope.length cc tp) (hT : TT wt k sizes scope tp T) (hsl : sizes.length ≤ 1000000) (hR : ∀ W, Below wt.heap.size wt W → Calls Tryd.prog 26 #[.pointer (some ⟨g, 0, none⟩)] W fun e w' => e = .returned (.int .i64 R) ∧ Below W.heap.size W w') (hB : Below w.heap.size w wt)
    {k0 k1 k3 k4 k5 k6 k7 k8 k9 k10 k11 k12 k14 k15 k16 k17 k18 k19 k20 k21 k22 k24 k27 k28 k29 k30 k31 k32 k33 k34 k35 k36 k37 k38 k39 k40 k41 k42 k43 k44 k45 k46 k47 k48 k49 k50 k51 k52 k53 k54 k55 k56 k57 k58 k59 k60 k61 k62 k63 k64 k65 k66 k67 k68 k69 k70 k71 k72 k73 k74 k75 k76 k77 k78 k79 k80 k81 k82 k83 k84 k85 k86 k87 k88 k89 k90 k91 k92 k93 k94 k95 k96 k97 k98 k99 k100 k101 k102 k103 k104 k105 k106 k107 k108 k109 k110 k111 k112 k113 k114 k115 k116 k117 k118 k119 k120 k121 k122 k123 k124 k125 k126 k127 k128 k129 k130 k131 k132 k133 k134 k135 k136 k137 k138 k139 k140 k141 k142 k143 k144 k145 k146 k147 k148 k149 k150 k151 k152 k153 k154 k155 k156 k157 k158 k159 k160 k161 k162 k163 k164 k165 k166 k167 k168 k169 k170 k171 k172 k173 k174 k175 k176 k177 k178 k179 k180 k181 k182 k183 k184 k185 k186 k187 k188 k189 k190 k191 k192 k193 k194 k195 k196 k197 k198 k199 k200 k201 k202 k203 k204 k205 k206 k207 k208 k209 k210 k211 k212 k213 k214 k215 k216 k217 k218 k219 k220 k221 k222 k223 k224 k225 k226 k227 k228 k229 k230 k231 k232 k233 k234 k235 k236 k237 k238 k239 k240 k241 k242 k243 k244 k245 k246 k247 k248 k249 k250 k251 k252 k253 k254 k255 k256 k257 k258 k259 k260 k261 k262 k263 k264 k265 k266 k267 k268 k269 : Value} :
    Code.wp Tryd.prog (sfx 22 wrbody) (bodyPost Tryd.prog Tryd.f8 fun e w' => e = .returned (.bool true) ∧ Below w.heap.size w w') ⟨#[k0, k1, .slice SA sizes.length sc, k3, k4, k5, k6, k7, k8, k9, k10, k11, k12, .pointer (some ⟨g, 0, none⟩), k14, k15, k16, k17, k18, k19, k20, k21, k22, .pointer tp, k24, .int .i64 R, .int .i64 R, k27, k28, k29, k30, k31, k32, k33, k34, k35, k36, k37, k38, k39, k40, k41, k42, k43, k44, k45, k46, k47, k48, k49, k50, k51, k52, k53, k54, k55, k56, k57, k58, k59, k60, k61, k62, k63, k64, k65, k66, k67, k68, k69, k70, k71, k72, k73, k74, k75, k76, k77, k78, k79, k80, k81, k82, k83, k84, k85, k86, k87, k88, k89, k90, k91, k92, k93, k94, k95, k96, k97, k98, k99, k100, k101, k102, k103, k104, k105, k106, k107, k108, k109, k110, k111, k112, k113, k114, k115, k116, k117, k118, k119, k120, k121, k122, k123, k124, k125, k126, k127, k128, k129, k130, k131, k132, k133, k134, k135, k136, k137, k138, k139, k140, k141, k142, k143, k144, k145, k146, k147, k148, k149, k150, k151, k152, k153, k154, k155, k156, k157, k158, k159, k160, k161, k162, k163, k164, k165, k166, k167, k168, k169, k170, k171, k172, k173, k174, k175, k176, k177, k178, k179, k180, k181, k182, k183, k184, k185, k186, k187, k188, k189, k190, k191, k192, k193, k194, k195, k196, k197, k198, k199, k200, k201, k202, k203, k204, k205, k206, k207, k208, k209, k210, k211, k212, k213, k214, k215, k216, k217, k218, k219, k220, k221, k222, k223, k224, k225, k226, k227, k228, k229, k230, k231, k232, k233, k234, k235, k236, k237, k238, k239, k240, k241, k242, k243, k244, k245, k246, k247, k248, k249, k250, k251, k252, k253, k254, k255, k256, k257, k258, k259, k260, k261, k262, k263, k264, k265, k266, k267, k268, k269], []⟩ wt := by
  conv => arg 2; whnf
  have hvn := val_nil wt
  have hrt := hR wt (Below.refl _ _)
  have HH := Lib.hid h
  have HT := Lib.hid hT
  have HB := Lib.hid hB
  clear h hR hT hB
  go_wp2_with fail
  refine hvn.mono ?_
  rintro e w1 ⟨rfl, rfl⟩
  clear hvn
  go_wp2_with fail
  refine hrt.mono ?_
  rintro e w1 ⟨rfl, hb1⟩
  have h1 := HH.out.below hb1
  obtain ⟨q0, q1, q2, q3, -⟩ := Blk.four (t := 51) h1.b
  have heq := equalI_any SA SA sizes.length sizes.length sc sc sizes sizes w1 (by omega) (by omega) (Reads.of_own h1.s) (Reads.of_own h1.s)
  rw [show eqB sizes sizes = true by unfold eqB; simp] at heq
  have HT1 := Lib.hid (HT.out.below hb1)
  have HB1 := Lib.hid (bto HB.out hb1)
  clear hrt h1 hb1
  go_wp2_with fail
  refine heq.mono ?_
  rintro e w2 ⟨rfl, hb2⟩
  have HT1 := Lib.hid (HT1.out.below hb2)
  have HB1 := Lib.hid (bto HB1.out hb2)
  clear heq hb2
  have hrn := right_nil w2
  have hcn := copy_nil w2
  rcases HT1.out with ⟨rfl, -⟩ | ⟨tg, T', rfl, -, h3, -⟩
  · go_wp2_with fail
    refine hrn.mono ?_
    rintro e w3 ⟨rfl, rfl⟩
    clear hrn
    go_wp2_with fail
    refine hcn.mono ?_
    rintro e w3 ⟨rfl, rfl⟩
    clear hcn
    go_wp2_with fail
    go_ret
    exact ⟨rfl, HB1.out⟩
  · have hln := tlen_any h3
    clear h3
    go_wp2_with fail
    refine hln.mono ?_
    rintro e w3 ⟨⟨m, rfl, hm⟩, rfl⟩
    obtain rfl : m = 0 := by omega
    clear hln hm
    go_wp2_with fail
    refine hrn.mono ?_
    rintro e w3 ⟨rfl, rfl⟩
    clear hrn
    go_wp2_with fail
    refine hcn.mono ?_
    rintro e w3 ⟨rfl, rfl⟩
    clear hcn
    go_wp2_with fail
    go_ret
    exact ⟨rfl, HB1.out⟩
end Go.Proofs.YtafdijfbgkcnnaaDoor.wcp
/- WcspRight, from behind: the copy is changed. -/
namespace Go.Proofs.YtafdijfbgkcnnaaDoor.wcp
open Go Go.RowKit Go.ChangeShapes Go.WideShapes Go.ChangeAt Go.Maps Go.Proofs.YtafdijfbgkcnnaaDoor.words Go.Proofs.YtafdijfbgkcnnaaDoor.scn
set_option linter.unusedVariables false
/-- a copy, its sizes no matter -/
def Cpy (w : World) (n : Nat) (T : Option TpH) (g2 : Nat) (w' : World) : Prop :=
  Below w.heap.size w w' ∧ ∃ (v0 v1 v2 : Value) (fb2 fc2 : Nat) (CA2 : Option Addr) (cc2 : Nat) (tp2 : Option Addr),
    Blk w' g2 51 #[v0, v1, v2, .slice (some ⟨fb2, 0, none⟩) 1 fc2] ∧
    w'.ownsRow w.heap.size 55 2 (.slice (some ⟨fb2, 0, none⟩) 1 fc2) 1 [.slice CA2 n cc2, .pointer tp2] ∧
    ((T = none ∧ tp2 = none) ∨ ∃ tg2 T', T = some T' ∧ tp2 = some ⟨tg2, 0, none⟩ ∧ TpV w' tg2 (fun q => w.heap.size ≤ q) 0 T')
set_option maxRecDepth 1000000 in
set_option maxHeartbeats 8000000 in
theorem wr_put {w wt w2 : World} {g g2 m oc : Nat} {OA : Option Addr} {name : List UInt8} {k : Int} {SA : Option Addr} {sc : Nat} {sizes scope : List Int} {fb fc : Nat} {CA : Option Addr} {cc : Nat} {tp : Option Addr} {T : Option TpH} {R : Int}
    (h : OneF wt g name k SA sc sizes fb fc CA scope.length cc tp) (hT : TT wt k sizes scope tp T) (hsl : sizes.length ≤ 1000000) (hm : ∀ T', T = some T' → T'.sizes.length = m) (hR : ∀ W, Below wt.heap.size wt W → Calls Tryd.prog 26 #[.pointer (some ⟨g, 0, none⟩)] W fun e w' => e = .returned (.int .i64 R) ∧ Below W.heap.size W w') (hB : Below w.heap.size w wt)
    (hC : Cpy wt scope.length T g2 w2)
    {k0 k1 k3 k4 k5 k6 k7 k8 k9 k10 k11 k12 k14 k15 k16 k17 k19 k20 k21 k22 k24 k28 k29 k30 k31 k32 k33 k34 k35 k36 k37 k38 k39 k40 k41 k42 k43 k44 k45 k46 k47 k48 k49 k50 k51 k52 k53 k54 k55 k56 k57 k58 k59 k60 k61 k62 k63 k64 k65 k66 k67 k68 k69 k70 k71 k72 k73 k74 k75 k76 k77 k78 k79 k80 k81 k82 k83 k84 k85 k86 k87 k88 k89 k90 k91 k92 k93 k94 k95 k96 k97 k98 k99 k100 k101 k102 k103 k104 k105 k106 k107 k108 k109 k110 k111 k112 k113 k114 k115 k116 k117 k118 k119 k120 k121 k122 k123 k124 k125 k126 k127 k128 k129 k130 k131 k132 k133 k134 k135 k136 k137 k138 k139 k140 k141 k142 k143 k144 k145 k146 k147 k148 k149 k150 k151 k152 k153 k154 k155 k156 k157 k158 k159 k160 k161 k162 k163 k164 k165 k166 k167 k168 k169 k170 k171 k172 k173 k174 k175 k176 k177 k178 k179 k180 k181 k182 k183 k184 k185 k186 k187 k188 k189 k190 k191 k192 k193 k194 k195 k196 k197 k198 k199 k200 k201 k202 k203 k204 k205 k206 k207 k208 k209 k210 k211 k212 k213 k214 k215 k216 k217 k218 k219 k220 k221 k222 k223 k224 k225 k226 k227 k228 k229 k230 k231 k232 k233 k234 k235 k236 k237 k238 k239 k240 k241 k242 k243 k244 k245 k246 k247 k248 k249 k250 k251 k252 k253 k254 k255 k256 k257 k258 k259 k260 k261 k262 k263 k264 k265 k266 k267 k268 k269 : Value} :
    Code.wp Tryd.prog (sfx 21 wrbody) (bodyPost Tryd.prog Tryd.f8 fun e w' => e = .returned (.bool true) ∧ Below w.heap.size w w') ⟨#[k0, k1, .slice SA sizes.length sc, k3, k4, k5, k6, k7, k8, k9, k10, k11, k12, .pointer (some ⟨g, 0, none⟩), k14, k15, k16, k17, .slice OA m oc, k19, k20, k21, k22, .pointer tp, k24, .int .i64 R, .int .i64 R, .pointer (some ⟨g2, 0, none⟩), k28, k29, k30, k31, k32, k33, k34, k35, k36, k37, k38, k39, k40, k41, k42, k43, k44, k45, k46, k47, k48, k49, k50, k51, k52, k53, k54, k55, k56, k57, k58, k59, k60, k61, k62, k63, k64, k65, k66, k67, k68, k69, k70, k71, k72, k73, k74, k75, k76, k77, k78, k79, k80, k81, k82, k83, k84, k85, k86, k87, k88, k89, k90, k91, k92, k93, k94, k95, k96, k97, k98, k99, k100, k101, k102, k103, k104, k105, k106, k107, k108, k109, k110, k111, k112, k113, k114, k115, k116, k117, k118, k119, k120, k121, k122, k123, k124, k125, k126, k127, k128, k129, k130, k131, k132, k133, k134, k135, k136, k137, k138, k139, k140, k141, k142, k143, k144, k145, k146, k147, k148, k149, k150, k151, k152, k153, k154, k155, k156, k157, k158, k159, k160, k161, k162, k163, k164, k165, k166, k167, k168, k169, k170, k171, k172, k173, k174, k175, k176, k177, k178, k179, k180, k181, k182, k183, k184, k185, k186, k187, k188, k189, k190, k191, k192, k193, k194, k195, k196, k197, k198, k199, k200, k201, k202, k203, k204, k205, k206, k207, k208, k209, k210, k211, k212, k213, k214, k215, k216, k217, k218, k219, k220, k221, k222, k223, k224, k225, k226, k227, k228, k229, k230, k231, k232, k233, k234, k235, k236, k237, k238, k239, k240, k241, k242, k243, k244, k245, k246, k247, k248, k249, k250, k251, k252, k253, k254, k255, k256, k257, k258, k259, k260, k261, k262, k263, k264, k265, k266, k267, k268, k269], []⟩ w2 := by
  conv => arg 2; whnf
  obtain ⟨hb2, v0, v1, v2, fb2, fc2, CA2, cc2, tp2, hg2, ho2, hT2⟩ := hC
  have q3 := (Blk.four (t := 51) hg2).2.2.2.1
  have o1 : w2.cell? ⟨fb2, 1, none⟩ = some (.pointer tp2) := (ho2.cellAt 1 (by omega)).trans rfl
  have hgl2 := hg2.lt
  have hfl2 : fb2 < w2.heap.size := (own_in ho2 (q := fb2) rfl).2
  have HH := Lib.hid h
  have HT := Lib.hid hT
  have HB := Lib.hid hB
  have HR := Lib.hid hR
  have HB2 := Lib.hid hb2
  clear h hT hB hR hb2
  have HE : Hid (∀ w3, Below wt.heap.size wt w3 → OneF w3 g name k SA sc sizes fb fc CA scope.length cc tp ∧ TT w3 k sizes scope tp T ∧ (∀ W, Below w3.heap.size w3 W → Calls Tryd.prog 26 #[.pointer (some ⟨g, 0, none⟩)] W fun e w' => e = .returned (.int .i64 R) ∧ Below W.heap.size W w') ∧ Below w.heap.size w w3) := fun w3 hb => ⟨HH.out.below hb, HT.out.below hb, fun W hW => HR.out W (bto hb hW), bto HB.out hb⟩
  clear HH HB HR
  rcases hT2 with ⟨rfl, rfl⟩ | ⟨tg2, T', rfl, rfl, h3⟩
  · repeat (first | (exact wr_end (HE.out _ HB2.out).1 (HE.out _ HB2.out).2.1 hsl (HE.out _ HB2.out).2.2.1 (HE.out _ HB2.out).2.2.2) | go_step | dsimp only)
  · obtain rfl := hm T' rfl
    have hok : okT T' ∧ inB 0 T'.k = true := by
      rcases HT.out with ⟨-, h⟩ | ⟨tg, T2, -, e, -, -, h5, h6, h7, -⟩
      · cases h
      · cases e
        refine ⟨⟨by omega, h6, h7⟩, ?_⟩
        unfold inB at h7 ⊢
        have := of_decide_eq_true h7
        exact decide_eq_true (by omega)
    have hm6 : T'.sizes.length ≤ 6 := hok.1.1
    obtain ⟨iI, hI0, hI1, hI2, hI3⟩ := info_parts infoI
    have hmk := fun W => run_make_rowN (P := Tryd.prog) 23 3 iI _ Tryd.underlying23 hI0 hI1 .i64 .i64 T'.sizes.length T'.sizes.length (Nat.le_refl _) (by rw [hI3]; omega) (by omega) W
    have hb4 : Below w2.heap.size w2 (w2.alloc (.cells (madeCells #[.int .i64 0] T'.sizes.length) 3)).drew := (fun (h : Below w2.heap.size w2 (w2.alloc (.cells (madeCells #[.int .i64 0] T'.sizes.length) 3))) => ⟨h.os, h.tape, h.output, h.size, h.block⟩) (bone w2 _)
    have hown : (w2.alloc (.cells (madeCells #[.int .i64 0] T'.sizes.length) 3)).drew.ownsRow w2.heap.size 3 1 (.slice (some ⟨w2.heap.size, 0, none⟩) T'.sizes.length T'.sizes.length) T'.sizes.length (nums (List.replicate T'.sizes.length 0)) := by
      rw [← nums_rep]
      exact World.ownsRow_lit w2 _ T'.sizes.length (Nat.le_refl _) (by unfold maxLen; omega) (by simp [madeCells])
    have hin : InS T'.sizes (List.replicate T'.sizes.length 0) := ⟨by simp, fun i v z hv hz => by
      have h1 := List.mem_replicate.1 (List.mem_of_getElem? hv)
      have h2 := hok.1.2.1 z (List.mem_of_getElem? hz)
      omega⟩
    have hput := tput_any (h3.keep (Tch.of_below hb4 (fun _ => False)) fun _ _ h => h) hok.1 (some ⟨w2.heap.size, 0, none⟩) T'.sizes.length T'.sizes.length (List.replicate T'.sizes.length 0) 0 (Reads.of_own hown) hin hok.2 (by omega)
    have hb24 : Below wt.heap.size wt (w2.alloc (.cells (madeCells #[.int .i64 0] T'.sizes.length) 3)).drew := bto HB2.out hb4
    have HB24 := Lib.hid hb24
    have HG4 := Lib.hid (hg2.alloc (.cells (madeCells #[.int .i64 0] T'.sizes.length) 3)).drew
    have HO4 := Lib.hid (ho2.alloc (.cells (madeCells #[.int .i64 0] T'.sizes.length) 3)).drew
    have hlg : g2 < w2.heap.size := hgl2
    have hlf : fb2 < w2.heap.size := hfl2
    clear hg2 ho2 h3 hok hown hin hb4 hb24
    go_upto_region 42 with fail
    go_region_held3 (fun W => W.cell? ⟨g2, 3, none⟩ = some (.slice (some ⟨fb2, 0, none⟩) 1 fc2) ∧ W.cell? ⟨fb2, 1, none⟩ = some (.pointer (some ⟨tg2, 0, none⟩))) (first | exact ⟨q3, o1⟩ | exact HS5 | exact ⟨(World.cell?_alloc_lt w2 _ _ hlg).trans q3, (World.cell?_alloc_lt w2 _ _ hlf).trans o1⟩) (first
      | (go_at_call 20; refine hput.mono ?_; rintro e w5 ⟨rfl, -, ht5⟩; have HS5 : w5.cell? ⟨g2, 3, none⟩ = some (.slice (some ⟨fb2, 0, none⟩) 1 fc2) ∧ w5.cell? ⟨fb2, 1, none⟩ = some (.pointer (some ⟨tg2, 0, none⟩)) := ⟨(Blk.four (t := 51) (ht5.blk HG4.out fun h => h.2 _ _ HG4.out)).2.2.2.1, ((own_off HO4.out ht5 fun q hq => .inr fun cs hb => hq.2 _ _ hb).cellAt 1 (by omega)).trans rfl⟩; have HT5 := Lib.hid ht5; clear hput ht5))
    all_goals
      have hb5 : Below wt.heap.size wt w5 := HB24.out.trans (HT5.out.below HB24.out.size fun i hi h => by have := h.1; omega)
      have HB5 := Lib.hid hb5
      clear hb5 HS5
      repeat (first | (exact wr_end (HE.out _ HB5.out).1 (HE.out _ HB5.out).2.1 hsl (HE.out _ HB5.out).2.2.1 (HE.out _ HB5.out).2.2.2) | go_step | dsimp only)
end Go.Proofs.YtafdijfbgkcnnaaDoor.wcp
/- WcspRight, from behind: it is copied. -/
namespace Go.Proofs.YtafdijfbgkcnnaaDoor.wcp
open Go Go.RowKit Go.ChangeShapes Go.WideShapes Go.ChangeAt Go.Maps Go.Proofs.YtafdijfbgkcnnaaDoor.words Go.Proofs.YtafdijfbgkcnnaaDoor.scn
set_option linter.unusedVariables false
theorem CopyR.cpy {w w' : World} {name : List UInt8} {k : Int} {sizes : List Int} {n g2 : Nat} {T : Option TpH} (h : CopyR w name k sizes n T g2 w') : Cpy w n T g2 w' := by
  obtain ⟨hb, hg, ZA, zc, fb2, fc2, CA2, cc2, tp2, h1, h2, h3, h4⟩ := h
  refine ⟨hb, _, _, _, fb2, fc2, CA2, cc2, tp2, h1, h3, ?_⟩
  rcases h4 with h | ⟨tg2, T', b, e1, e2, hb, -, h5⟩
  · exact .inl h
  · exact .inr ⟨tg2, T', e1, e2, h5.mono fun q hq => by omega⟩
/-- its first size is another one's -/
theorem CopyR.cpy_set {w w' : World} {name : List UInt8} {k : Int} {sizes : List Int} {n g2 : Nat} {T : Option TpH} (h : CopyR w name k sizes n T g2 w') (hs : sizes ≠ []) : ∃ q zc v3, Blk w' g2 51 #[strV name, .int .i64 k, .slice (some ⟨q, 0, none⟩) sizes.length zc, v3] ∧ w'.frozen? ⟨q, 0, none⟩ = false ∧ (∃ v, w'.cell? ⟨q, 0, none⟩ = some v) ∧ ∀ v, Cpy w n T g2 (w'.setCell ⟨q, 0, none⟩ v) := by
  obtain ⟨hb, hg, ZA, zc, fb2, fc2, CA2, cc2, tp2, h1, h2, h3, h4⟩ := h
  have hl : 0 < sizes.length := List.length_pos_iff.2 hs
  obtain ⟨q, rfl, hq1, hq2⟩ := own_some h2 hl
  refine ⟨q, zc, _, h1, h2.frozenAt 0, ?_, fun v => ?_⟩
  · rw [h2.cellAt 0 (by omega)]
    exact ⟨_, List.getElem?_eq_getElem (by simp [nums]; omega)⟩
  · have T1 : Tch w' (w'.setCell ⟨q, 0, none⟩ v) (fun i => i = q) := Tch.set_ (S := fun i => i = q) w' v rfl
    have hne : q ≠ g2 := fun e => own_blk_ne h2 h1 (by decide) (by rw [← e]; rfl)
    refine ⟨hb.trans (T1.below hb.size fun i hi e => by omega), _, _, _, fb2, fc2, CA2, cc2, tp2, T1.blk h1 (fun e => hne e.symm), own_off h3 T1 fun i hi => .inr fun cs hc => own_blk_ne h2 hc (by decide) (by rw [hi]; rfl), ?_⟩
    rcases h4 with h | ⟨tg2, T', b, e1, e2, hb, h5, h6⟩
    · exact .inl h
    · have := h5 q rfl
      exact .inr ⟨tg2, T', e1, e2, (h6.keep T1 fun i hi e => by omega).mono fun i hi => by omega⟩
set_option maxRecDepth 1000000 in
set_option maxHeartbeats 8000000 in
theorem wr_copy {w wt : World} {g m oc : Nat} {OA : Option Addr} {name : List UInt8} {k : Int} {SA : Option Addr} {sc : Nat} {sizes scope : List Int} {fb fc : Nat} {CA : Option Addr} {cc : Nat} {tp : Option Addr} {T : Option TpH} {R : Int}
    (h : OneF wt g name k SA sc sizes fb fc CA scope.length cc tp) (hc : wt.ownsRow 0 3 1 (.slice CA scope.length cc) scope.length (nums scope)) (hT : TT wt k sizes scope tp T) (hn : scope.length ≤ 1000000) (hsl : sizes.length ≤ 1000000) (hm : ∀ T', T = some T' → T'.sizes.length = m) (hR : ∀ W, Below wt.heap.size wt W → Calls Tryd.prog 26 #[.pointer (some ⟨g, 0, none⟩)] W fun e w' => e = .returned (.int .i64 R) ∧ Below W.heap.size W w') (hB : Below w.heap.size w wt)
    {k0 k1 k3 k4 k5 k6 k7 k8 k9 k10 k11 k12 k14 k15 k16 k17 k19 k20 k21 k22 k24 k27 k28 k29 k30 k31 k32 k33 k34 k35 k36 k37 k38 k39 k40 k41 k42 k43 k44 k45 k46 k47 k48 k49 k50 k51 k52 k53 k54 k55 k56 k57 k58 k59 k60 k61 k62 k63 k64 k65 k66 k67 k68 k69 k70 k71 k72 k73 k74 k75 k76 k77 k78 k79 k80 k81 k82 k83 k84 k85 k86 k87 k88 k89 k90 k91 k92 k93 k94 k95 k96 k97 k98 k99 k100 k101 k102 k103 k104 k105 k106 k107 k108 k109 k110 k111 k112 k113 k114 k115 k116 k117 k118 k119 k120 k121 k122 k123 k124 k125 k126 k127 k128 k129 k130 k131 k132 k133 k134 k135 k136 k137 k138 k139 k140 k141 k142 k143 k144 k145 k146 k147 k148 k149 k150 k151 k152 k153 k154 k155 k156 k157 k158 k159 k160 k161 k162 k163 k164 k165 k166 k167 k168 k169 k170 k171 k172 k173 k174 k175 k176 k177 k178 k179 k180 k181 k182 k183 k184 k185 k186 k187 k188 k189 k190 k191 k192 k193 k194 k195 k196 k197 k198 k199 k200 k201 k202 k203 k204 k205 k206 k207 k208 k209 k210 k211 k212 k213 k214 k215 k216 k217 k218 k219 k220 k221 k222 k223 k224 k225 k226 k227 k228 k229 k230 k231 k232 k233 k234 k235 k236 k237 k238 k239 k240 k241 k242 k243 k244 k245 k246 k247 k248 k249 k250 k251 k252 k253 k254 k255 k256 k257 k258 k259 k260 k261 k262 k263 k264 k265 k266 k267 k268 k269 : Value} :
    Code.wp Tryd.prog (sfx 19 wrbody) (bodyPost Tryd.prog Tryd.f8 fun e w' => e = .returned (.bool true) ∧ Below w.heap.size w w') ⟨#[k0, k1, .slice SA sizes.length sc, k3, k4, k5, k6, k7, k8, k9, k10, k11, k12, .pointer (some ⟨g, 0, none⟩), k14, k15, k16, k17, .slice OA m oc, k19, k20, k21, k22, .pointer tp, k24, .int .i64 R, .int .i64 R, k27, k28, k29, k30, k31, k32, k33, k34, k35, k36, k37, k38, k39, k40, k41, k42, k43, k44, k45, k46, k47, k48, k49, k50, k51, k52, k53, k54, k55, k56, k57, k58, k59, k60, k61, k62, k63, k64, k65, k66, k67, k68, k69, k70, k71, k72, k73, k74, k75, k76, k77, k78, k79, k80, k81, k82, k83, k84, k85, k86, k87, k88, k89, k90, k91, k92, k93, k94, k95, k96, k97, k98, k99, k100, k101, k102, k103, k104, k105, k106, k107, k108, k109, k110, k111, k112, k113, k114, k115, k116, k117, k118, k119, k120, k121, k122, k123, k124, k125, k126, k127, k128, k129, k130, k131, k132, k133, k134, k135, k136, k137, k138, k139, k140, k141, k142, k143, k144, k145, k146, k147, k148, k149, k150, k151, k152, k153, k154, k155, k156, k157, k158, k159, k160, k161, k162, k163, k164, k165, k166, k167, k168, k169, k170, k171, k172, k173, k174, k175, k176, k177, k178, k179, k180, k181, k182, k183, k184, k185, k186, k187, k188, k189, k190, k191, k192, k193, k194, k195, k196, k197, k198, k199, k200, k201, k202, k203, k204, k205, k206, k207, k208, k209, k210, k211, k212, k213, k214, k215, k216, k217, k218, k219, k220, k221, k222, k223, k224, k225, k226, k227, k228, k229, k230, k231, k232, k233, k234, k235, k236, k237, k238, k239, k240, k241, k242, k243, k244, k245, k246, k247, k248, k249, k250, k251, k252, k253, k254, k255, k256, k257, k258, k259, k260, k261, k262, k263, k264, k265, k266, k267, k268, k269], []⟩ wt := by
  conv => arg 2; whnf
  have hcp := copy_law h hc hT hn hsl
  have HM := Lib.hid hm
  have HH := Lib.hid h
  have HT := Lib.hid hT
  have HB := Lib.hid hB
  have HR := Lib.hid hR
  clear h hc hT hB hR hm
  go_wp2_with fail
  refine hcp.mono ?_
  rintro e w1 ⟨g2, rfl, hcr⟩
  clear hcp
  by_cases hs : sizes = []
  · subst hs
    have hC := hcr.cpy
    obtain ⟨-, -, ZA, zc, fb2, fc2, CA2, cc2, tp2, h1, -⟩ := hcr
    obtain ⟨q0, q1, q2, q3, -⟩ := Blk.four (t := 51) h1
    have HC := Lib.hid hC
    clear h1 hC
    repeat (first | (exact wr_put HH.out HT.out hsl HM.out HR.out HB.out HC.out) | go_step | dsimp only)
  · obtain ⟨q, zc, v3, h1, hf, ⟨u, hu⟩, hC⟩ := hcr.cpy_set hs
    obtain ⟨q0, q1, q2, q3, -⟩ := Blk.four (t := 51) h1
    have hl : 0 < sizes.length := List.length_pos_iff.2 hs
    have hlI : decide ((0 : Int) < (sizes.length : Int)) = true := decide_eq_true (by omega)
    have HC := Lib.hid (hC (.int .i64 99))
    clear h1 hC hcr hs
    repeat (first | (exact wr_put HH.out HT.out hsl HM.out HR.out HB.out HC.out) | go_step | dsimp only)
end Go.Proofs.YtafdijfbgkcnnaaDoor.wcp
/- WcspRight, from behind: the function is laid into the file; is it right? -/
namespace Go.Proofs.YtafdijfbgkcnnaaDoor.wcp
open Go Go.RowKit Go.ChangeShapes Go.WideShapes Go.ChangeAt Go.Maps Go.Proofs.YtafdijfbgkcnnaaDoor.words Go.Proofs.YtafdijfbgkcnnaaDoor.scn
set_option linter.unusedVariables false
theorem oneF_new {w : World} {g : Nat} {name : List UInt8} {k : Int} {SA : Option Addr} {sc : Nat} {sizes : List Int} {CA : Option Addr} {n cc : Nat} {tp : Option Addr} {v3 : Value} (hg : Blk w g 51 #[strV name, .int .i64 k, .slice SA sizes.length sc, v3]) (hs : w.ownsRow 0 3 1 (.slice SA sizes.length sc) sizes.length (nums sizes)) :
    OneF ((w.alloc (.cells #[.slice CA n cc, .pointer tp] 55)).setCell ⟨g, 3, none⟩ (.slice (some ⟨w.heap.size, 0, none⟩) 1 1)) g name k SA sc sizes w.heap.size 1 CA n cc tp := by
  have hb := bone w (.cells #[.slice CA n cc, .pointer tp] 55)
  have hg1 := hg.alloc (.cells #[.slice CA n cc, .pointer tp] 55)
  have T1 : Tch (w.alloc (.cells #[.slice CA n cc, .pointer tp] 55)) ((w.alloc (.cells #[.slice CA n cc, .pointer tp] 55)).setCell ⟨g, 3, none⟩ (.slice (some ⟨w.heap.size, 0, none⟩) 1 1)) (fun i => i = g) := Tch.set_ (S := fun i => i = g) _ _ rfl
  have hoff : ∀ (B : Nat) (ty : TypeId), 51 ≠ ty → Off (w.alloc (.cells #[.slice CA n cc, .pointer tp] 55)) B (fun q => q = g) ty := fun B ty hne q hq => .inr fun cs hb => Blk.ne_ hg1 hb hne hq.symm
  have ho : (w.alloc (.cells #[.slice CA n cc, .pointer tp] 55)).ownsRow 0 55 2 (.slice (some ⟨w.heap.size, 0, none⟩) 1 1) 1 [.slice CA n cc, .pointer tp] := World.ownsRow_lit w #[.slice CA n cc, .pointer tp] 1 (Nat.zero_le _) (by unfold maxLen; omega) rfl
  exact ⟨hg1.set_ 3 _, own_off (own_under hs hb) T1 (hoff _ _ (by decide)), own_off ho T1 (hoff _ _ (by decide))⟩
set_option maxRecDepth 1000000 in
set_option maxHeartbeats 8000000 in
theorem wr_mid {w wt : World} {g m oc : Nat} {OA : Option Addr} {name : List UInt8} {k : Int} {SA : Option Addr} {sc : Nat} {sizes scope : List Int} {CA : Option Addr} {cc : Nat} {tp : Option Addr} {T : Option TpH} {v3 : Value} {okb fitb : Bool} {count : Int}
    (hg : Blk wt g 51 #[strV name, .int .i64 k, .slice SA sizes.length sc, v3]) (hgb : w.heap.size ≤ g) (hs : wt.ownsRow 0 3 1 (.slice SA sizes.length sc) sizes.length (nums sizes)) (hc : wt.ownsRow 0 3 1 (.slice CA scope.length cc) scope.length (nums scope))
    (hT : ∀ W, Tch wt W (fun q => q = g) → TT W k sizes scope tp T) (hn : scope.length ≤ 5) (hsl : sizes.length ≤ 1000000) (hnl : name.length ≤ 1000000) (hm : ∀ T', T = some T' → T'.sizes.length = m) (hB : Below w.heap.size w wt)
    (hok : okb = true ↔ OkB name k sizes) (hfit : fitb = true ↔ Fit3 sizes scope) (hcount : Fit3 sizes scope → count = countO (ownOf sizes scope))
    {k4 k5 k6 k7 k8 k9 k10 k11 k12 k15 k16 k17 k21 k22 k24 k25 k26 k27 k28 k29 k30 k31 k32 k33 k34 k35 k36 k37 k38 k39 k40 k41 k42 k43 k44 k45 k46 k47 k48 k49 k50 k51 k52 k53 k54 k55 k56 k57 k58 k59 k60 k61 k62 k63 k64 k65 k66 k67 k68 k69 k70 k71 k72 k73 k74 k75 k76 k77 k78 k79 k80 k81 k82 k83 k84 k85 k86 k87 k88 k89 k90 k91 k92 k93 k94 k95 k96 k97 k98 k99 k100 k101 k102 k103 k104 k105 k106 k107 k108 k109 k110 k111 k112 k113 k114 k115 k116 k117 k118 k119 k120 k121 k122 k123 k124 k125 k126 k127 k128 k129 k130 k131 k132 k133 k134 k135 k136 k137 k138 k139 k140 k141 k142 k143 k144 k145 k146 k147 k148 k149 k150 k151 k152 k153 k154 k155 k156 k157 k158 k159 k160 k161 k162 k163 k164 k165 k166 k167 k168 k169 k170 k171 k172 k173 k174 k175 k176 k177 k178 k179 k180 k181 k182 k183 k184 k185 k186 k187 k188 k189 k190 k191 k192 k193 k194 k195 k196 k197 k198 k199 k200 k201 k202 k203 k204 k205 k206 k207 k208 k209 k210 k211 k212 k213 k214 k215 k216 k217 k218 k219 k220 k221 k222 k223 k224 k225 k226 k227 k228 k229 k230 k231 k232 k233 k234 k235 k236 k237 k238 k239 k240 k241 k242 k243 k244 k245 k246 k247 k248 k249 k250 k251 k252 k253 k254 k255 k256 k257 k258 k259 k260 k261 k262 k263 k264 k265 k266 k267 k268 k269 : Value} :
    Code.wp Tryd.prog (sfx 13 wrbody) (bodyPost Tryd.prog Tryd.f8 fun e w' => e = .returned (.bool true) ∧ Below w.heap.size w w') ⟨#[strV name, .int .i64 k, .slice SA sizes.length sc, .slice CA scope.length cc, k4, k5, k6, k7, k8, k9, k10, k11, k12, .pointer (some ⟨g, 0, none⟩), .bool okb, k15, k16, k17, .slice OA m oc, .bool fitb, .int .i64 count, k21, k22, .pointer tp, k24, k25, k26, k27, k28, k29, k30, k31, k32, k33, k34, k35, k36, k37, k38, k39, k40, k41, k42, k43, k44, k45, k46, k47, k48, k49, k50, k51, k52, k53, k54, k55, k56, k57, k58, k59, k60, k61, k62, k63, k64, k65, k66, k67, k68, k69, k70, k71, k72, k73, k74, k75, k76, k77, k78, k79, k80, k81, k82, k83, k84, k85, k86, k87, k88, k89, k90, k91, k92, k93, k94, k95, k96, k97, k98, k99, k100, k101, k102, k103, k104, k105, k106, k107, k108, k109, k110, k111, k112, k113, k114, k115, k116, k117, k118, k119, k120, k121, k122, k123, k124, k125, k126, k127, k128, k129, k130, k131, k132, k133, k134, k135, k136, k137, k138, k139, k140, k141, k142, k143, k144, k145, k146, k147, k148, k149, k150, k151, k152, k153, k154, k155, k156, k157, k158, k159, k160, k161, k162, k163, k164, k165, k166, k167, k168, k169, k170, k171, k172, k173, k174, k175, k176, k177, k178, k179, k180, k181, k182, k183, k184, k185, k186, k187, k188, k189, k190, k191, k192, k193, k194, k195, k196, k197, k198, k199, k200, k201, k202, k203, k204, k205, k206, k207, k208, k209, k210, k211, k212, k213, k214, k215, k216, k217, k218, k219, k220, k221, k222, k223, k224, k225, k226, k227, k228, k229, k230, k231, k232, k233, k234, k235, k236, k237, k238, k239, k240, k241, k242, k243, k244, k245, k246, k247, k248, k249, k250, k251, k252, k253, k254, k255, k256, k257, k258, k259, k260, k261, k262, k263, k264, k265, k266, k267, k268, k269], []⟩ wt := by
  conv => arg 2; whnf
  obtain ⟨w3, hw3⟩ : ∃ w3, (wt.alloc (.cells #[.slice CA scope.length cc, .pointer tp] 55)).setCell ⟨g, 3, none⟩ (.slice (some ⟨wt.heap.size, 0, none⟩) 1 1) = w3 := ⟨_, rfl⟩
  obtain ⟨fb, hfb⟩ : ∃ fb, wt.heap.size = fb := ⟨_, rfl⟩
  have h3 := oneF_new (CA := CA) (n := scope.length) (cc := cc) (tp := tp) hg hs
  have hb := bone wt (.cells #[.slice CA scope.length cc, .pointer tp] 55)
  have T1 : Tch wt w3 (fun i => i = g) := (Tch.of_below hb _).trans (hw3 ▸ Tch.set_ (S := fun i => i = g) _ _ rfl) fun _ _ h => h
  rw [hw3, hfb] at h3
  have hc3 := own_off hc T1 (fun q hq => .inr fun cs hb => Blk.ne_ hg hb (by decide) hq.symm)
  have hT3 := hT w3 T1
  have hB3 : Below w.heap.size w w3 := hB.trans (T1.below hB.size fun i hi e => by omega)
  have hR : ∃ R : Int, (OkB name k sizes ∧ Fit3 sizes scope ∧ T ≠ none → R = if (64 < name.length ∨ 64 < sizes.length ∨ 4096 < countO (ownOf sizes scope)) then 5 else 0) ∧ (¬ (OkB name k sizes ∧ Fit3 sizes scope ∧ T ≠ none) → R = 1) := by
    by_cases h : OkB name k sizes ∧ Fit3 sizes scope ∧ T ≠ none
    · exact ⟨_, fun _ => rfl, fun h' => absurd h h'⟩
    · exact ⟨1, fun h' => absurd h' h, fun _ => rfl⟩
  obtain ⟨R, hR1, hR2⟩ := hR
  have HR : Hid (∀ W, Below w3.heap.size w3 W → Calls Tryd.prog 26 #[.pointer (some ⟨g, 0, none⟩)] W fun e w' => e = .returned (.int .i64 R) ∧ Below W.heap.size W w') := fun W hW => right_law (h3.below hW) (own_under hc3 hW) (hT3.below hW) (by omega) hsl hnl R hR1 hR2
  have hrt := HR.out w3 (Below.refl _ _)
  obtain ⟨q0, q1, q2, q3, qf0, qf1, qf2, qf3⟩ := Blk.four (t := 51) hg
  have qc := (Blk.four (t := 51) (hg.alloc (.cells #[.slice CA scope.length cc, .pointer tp] 55))).2.2.2.1
  have qf := (hg.alloc (.cells #[.slice CA scope.length cc, .pointer tp] 55)).frozen 3
  have HO := Lib.hid h3
  have HC := Lib.hid hc3
  have HT3 := Lib.hid hT3
  have HB3 := Lib.hid hB3
  have HM := Lib.hid hm
  have HXF : Hid (∀ w4, Below w3.heap.size w3 w4 → (OneF w4 g name k SA sc sizes fb 1 CA scope.length cc tp ∧ w4.ownsRow 0 3 1 (.slice CA scope.length cc) scope.length (nums scope) ∧ TT w4 k sizes scope tp T ∧ (∀ W, Below w4.heap.size w4 W → Calls Tryd.prog 26 #[.pointer (some ⟨g, 0, none⟩)] W fun e w' => e = .returned (.int .i64 R) ∧ Below W.heap.size W w') ∧ Below w.heap.size w w4)) := fun w4 hb4 => ⟨HO.out.below hb4, own_under HC.out hb4, HT3.out.below hb4, fun W hW => HR.out W (bto hb4 hW), bto HB3.out hb4⟩
  have HW3 := Lib.hid hw3
  have HFB := Lib.hid hfb
  clear HO HC HR h3 hb T1 hT hT3 hB3 hc3 hg hs hc hB hm hw3 hfb
  by_cases hall : OkB name k sizes ∧ Fit3 sizes scope ∧ T ≠ none
  · obtain rfl : okb = true := hok.2 hall.1
    obtain rfl : fitb = true := hfit.2 hall.2.1
    have HR5 := Lib.hid (hR1 hall)
    obtain ⟨tg, rfl⟩ : ∃ tg, tp = some ⟨tg, 0, none⟩ := by
      rcases HT3.out with ⟨-, h⟩ | ⟨tg, T', e, -⟩
      · exact absurd h hall.2.2
      · exact ⟨tg, e⟩
    obtain rfl := hcount hall.2.1
    obtain ⟨cn, hcn⟩ : ∃ cn, countO (ownOf sizes scope) = cn := ⟨_, rfl⟩
    rw [hcn] at HR5 ⊢
    clear hall hok hfit hR1 hR2 hcn
    by_cases hn64 : (64 : Int) < (name.length : Int)
    · have hnI : decide ((64 : Int) < (name.length : Int)) = true := decide_eq_true hn64
      obtain rfl : R = 5 := HR5.out.trans (if_pos (.inl (by omega)))
      clear hn64
      go_upto_region 31 with fail
      rw [HW3.out, HFB.out]
      clear q0 q1 q2 q3 qf0 qf1 qf2 qf3 qf qc
      go_wp2_with fail
      refine hrt.mono ?_
      rintro e w4 ⟨rfl, hb4⟩
      have HX := Lib.hid (HXF.out w4 hb4)
      clear hrt hb4
      go_upto_if 192 with fail
      repeat (first | (exact wr_copy HX.out.1 HX.out.2.1 HX.out.2.2.1 (by omega) hsl HM.out HX.out.2.2.2.1 HX.out.2.2.2.2) | go_step | dsimp only)
    · have hnI : decide ((64 : Int) < (name.length : Int)) = false := decide_eq_false hn64
      by_cases hs64 : (64 : Int) < (sizes.length : Int)
      · have hsI : decide ((64 : Int) < (sizes.length : Int)) = true := decide_eq_true hs64
        obtain rfl : R = 5 := HR5.out.trans (if_pos (.inr (.inl (by omega))))
        clear hn64 hs64
        go_upto_region 31 with fail
        rw [HW3.out, HFB.out]
        clear q0 q1 q2 q3 qf0 qf1 qf2 qf3 qf qc
        go_wp2_with fail
        refine hrt.mono ?_
        rintro e w4 ⟨rfl, hb4⟩
        have HX := Lib.hid (HXF.out w4 hb4)
        clear hrt hb4
        go_upto_if 192 with fail
        repeat (first | (exact wr_copy HX.out.1 HX.out.2.1 HX.out.2.2.1 (by omega) hsl HM.out HX.out.2.2.2.1 HX.out.2.2.2.2) | go_step | dsimp only)
      · have hsI : decide ((64 : Int) < (sizes.length : Int)) = false := decide_eq_false hs64
        by_cases hc4 : 4096 < cn
        · have hcI : decide (4096 < cn) = true := decide_eq_true hc4
          obtain rfl : R = 5 := HR5.out.trans (if_pos (.inr (.inr hc4)))
          clear hn64 hs64 hc4
          go_upto_region 31 with fail
          rw [HW3.out, HFB.out]
          clear q0 q1 q2 q3 qf0 qf1 qf2 qf3 qf qc
          go_wp2_with fail
          refine hrt.mono ?_
          rintro e w4 ⟨rfl, hb4⟩
          have HX := Lib.hid (HXF.out w4 hb4)
          clear hrt hb4
          go_upto_if 192 with fail
          repeat (first | (exact wr_copy HX.out.1 HX.out.2.1 HX.out.2.2.1 (by omega) hsl HM.out HX.out.2.2.2.1 HX.out.2.2.2.2) | go_step | dsimp only)
        · have hcI : decide (4096 < cn) = false := decide_eq_false hc4
          obtain rfl : R = 0 := HR5.out.trans (if_neg fun h => by omega)
          clear hn64 hs64 hc4
          go_upto_region 31 with fail
          rw [HW3.out, HFB.out]
          clear q0 q1 q2 q3 qf0 qf1 qf2 qf3 qf qc
          go_wp2_with fail
          refine hrt.mono ?_
          rintro e w4 ⟨rfl, hb4⟩
          have HX := Lib.hid (HXF.out w4 hb4)
          clear hrt hb4
          go_upto_if 192 with fail
          repeat (first | (exact wr_copy HX.out.1 HX.out.2.1 HX.out.2.2.1 (by omega) hsl HM.out HX.out.2.2.2.1 HX.out.2.2.2.2) | go_step | dsimp only)
  · obtain rfl := hR2 hall
    cases okb with
    | false =>
      clear hall hok hfit hR1 hR2 hcount
      go_upto_region 31 with fail
      rw [HW3.out, HFB.out]
      clear q0 q1 q2 q3 qf0 qf1 qf2 qf3 qf qc
      go_wp2_with fail
      refine hrt.mono ?_
      rintro e w4 ⟨rfl, hb4⟩
      have HX := Lib.hid (HXF.out w4 hb4)
      clear hrt hb4
      go_upto_if 192 with fail
      repeat (first | (exact wr_copy HX.out.1 HX.out.2.1 HX.out.2.2.1 (by omega) hsl HM.out HX.out.2.2.2.1 HX.out.2.2.2.2) | go_step | dsimp only)
    | true =>
      cases fitb with
      | false =>
        clear hall hok hfit hR1 hR2 hcount
        go_upto_region 31 with fail
        rw [HW3.out, HFB.out]
        clear q0 q1 q2 q3 qf0 qf1 qf2 qf3 qf qc
        go_wp2_with fail
        refine hrt.mono ?_
        rintro e w4 ⟨rfl, hb4⟩
        have HX := Lib.hid (HXF.out w4 hb4)
        clear hrt hb4
        go_upto_if 192 with fail
        repeat (first | (exact wr_copy HX.out.1 HX.out.2.1 HX.out.2.2.1 (by omega) hsl HM.out HX.out.2.2.2.1 HX.out.2.2.2.2) | go_step | dsimp only)
      | true =>
        obtain rfl : tp = none := by
          rcases HT3.out with ⟨h, -⟩ | ⟨tg, T', -, e, -⟩
          · exact h
          · exact absurd ⟨hok.1 rfl, hfit.1 rfl, by rw [e]; simp⟩ hall
        clear hall hok hfit hR1 hR2 hcount
        go_upto_region 31 with fail
        rw [HW3.out, HFB.out]
        clear q0 q1 q2 q3 qf0 qf1 qf2 qf3 qf qc
        go_wp2_with fail
        refine hrt.mono ?_
        rintro e w4 ⟨rfl, hb4⟩
        have HX := Lib.hid (HXF.out w4 hb4)
        clear hrt hb4
        go_upto_if 192 with fail
        repeat (first | (exact wr_copy HX.out.1 HX.out.2.1 HX.out.2.2.1 (by omega) hsl HM.out HX.out.2.2.2.1 HX.out.2.2.2.2) | go_step | dsimp only)
end Go.Proofs.YtafdijfbgkcnnaaDoor.wcp
/- WcspRight, from behind: the tuples are made, or none. -/
namespace Go.Proofs.YtafdijfbgkcnnaaDoor.wcp
open Go Go.RowKit Go.ChangeShapes Go.WideShapes Go.ChangeAt Go.Maps Go.Proofs.YtafdijfbgkcnnaaDoor.words Go.Proofs.YtafdijfbgkcnnaaDoor.scn
set_option linter.unusedVariables false
/-- what wr_mid wants of a world -/
def MidW (w wt : World) (g : Nat) (name : List UInt8) (k : Int) (SA : Option Addr) (sc : Nat) (sizes scope : List Int) (CA : Option Addr) (cc : Nat) (m : Nat) (tp : Option Addr) (T : Option TpH) (v3 : Value) : Prop :=
  Blk wt g 51 #[strV name, .int .i64 k, .slice SA sizes.length sc, v3] ∧ wt.ownsRow 0 3 1 (.slice SA sizes.length sc) sizes.length (nums sizes) ∧ wt.ownsRow 0 3 1 (.slice CA scope.length cc) scope.length (nums scope) ∧
    (∀ W, Tch wt W (fun q => q = g) → TT W k sizes scope tp T) ∧ (∀ T', T = some T' → T'.sizes.length = m) ∧ Below w.heap.size w wt
theorem ownOf_len {zs sc : List Int} : (ownOf zs sc).length = sc.length := by unfold ownOf; simp
set_option maxRecDepth 1000000 in
set_option maxHeartbeats 8000000 in
theorem wr_new {w wt : World} {g oc : Nat} {OA : Option Addr} {name : List UInt8} {k other : Int} {nothing : Bool} {SA : Option Addr} {sc : Nat} {sizes scope ow : List Int} {CA : Option Addr} {cc : Nat} {v3 : Value} {okb fitb : Bool} {count : Int}
    (hg : Blk wt g 51 #[strV name, .int .i64 k, .slice SA sizes.length sc, v3]) (hgb : w.heap.size ≤ g) (hs : wt.ownsRow 0 3 1 (.slice SA sizes.length sc) sizes.length (nums sizes)) (hc : wt.ownsRow 0 3 1 (.slice CA scope.length cc) scope.length (nums scope))
    (ho : wt.ownsRow 0 3 1 (.slice OA ow.length oc) ow.length (nums ow)) (hn : scope.length ≤ 5) (hsl : sizes.length ≤ 1000000) (hnl : name.length ≤ 1000000) (hB : Below w.heap.size w wt)
    (hok : okb = true ↔ OkB name k sizes) (hfit : fitb = true ↔ Fit3 sizes scope) (hcount : Fit3 sizes scope → count = countO (ownOf sizes scope)) (how : Fit3 sizes scope → ow = ownOf sizes scope) (how2 : ¬ Fit3 sizes scope → ow.length < scope.length)
    {k6 k7 k8 k9 k10 k11 k12 k15 k16 k17 k21 k22 k23 k24 k25 k26 k27 k28 k29 k30 k31 k32 k33 k34 k35 k36 k37 k38 k39 k40 k41 k42 k43 k44 k45 k46 k47 k48 k49 k50 k51 k52 k53 k54 k55 k56 k57 k58 k59 k60 k61 k62 k63 k64 k65 k66 k67 k68 k69 k70 k71 k72 k73 k74 k75 k76 k77 k78 k79 k80 k81 k82 k83 k84 k85 k86 k87 k88 k89 k90 k91 k92 k93 k94 k95 k96 k97 k98 k99 k100 k101 k102 k103 k104 k105 k106 k107 k108 k109 k110 k111 k112 k113 k114 k115 k116 k117 k118 k119 k120 k121 k122 k123 k124 k125 k126 k127 k128 k129 k130 k131 k132 k133 k134 k135 k136 k137 k138 k139 k140 k141 k142 k143 k144 k145 k146 k147 k148 k149 k150 k151 k152 k153 k154 k155 k156 k157 k158 k159 k160 k161 k162 k163 k164 k165 k166 k167 k168 k169 k170 k171 k172 k173 k174 k175 k176 k177 k178 k179 k180 k181 k182 k183 k184 k185 k186 k187 k188 k189 k190 k191 k192 k193 k194 k195 k196 k197 k198 k199 k200 k201 k202 k203 k204 k205 k206 k207 k208 k209 k210 k211 k212 k213 k214 k215 k216 k217 k218 k219 k220 k221 k222 k223 k224 k225 k226 k227 k228 k229 k230 k231 k232 k233 k234 k235 k236 k237 k238 k239 k240 k241 k242 k243 k244 k245 k246 k247 k248 k249 k250 k251 k252 k253 k254 k255 k256 k257 k258 k259 k260 k261 k262 k263 k264 k265 k266 k267 k268 k269 : Value} :
    Code.wp Tryd.prog (sfx 11 wrbody) (bodyPost Tryd.prog Tryd.f8 fun e w' => e = .returned (.bool true) ∧ Below w.heap.size w w') ⟨#[strV name, .int .i64 k, .slice SA sizes.length sc, .slice CA scope.length cc, .int .i64 other, .bool nothing, k6, k7, k8, k9, k10, k11, k12, .pointer (some ⟨g, 0, none⟩), .bool okb, k15, k16, k17, .slice OA ow.length oc, .bool fitb, .int .i64 count, k21, k22, k23, k24, k25, k26, k27, k28, k29, k30, k31, k32, k33, k34, k35, k36, k37, k38, k39, k40, k41, k42, k43, k44, k45, k46, k47, k48, k49, k50, k51, k52, k53, k54, k55, k56, k57, k58, k59, k60, k61, k62, k63, k64, k65, k66, k67, k68, k69, k70, k71, k72, k73, k74, k75, k76, k77, k78, k79, k80, k81, k82, k83, k84, k85, k86, k87, k88, k89, k90, k91, k92, k93, k94, k95, k96, k97, k98, k99, k100, k101, k102, k103, k104, k105, k106, k107, k108, k109, k110, k111, k112, k113, k114, k115, k116, k117, k118, k119, k120, k121, k122, k123, k124, k125, k126, k127, k128, k129, k130, k131, k132, k133, k134, k135, k136, k137, k138, k139, k140, k141, k142, k143, k144, k145, k146, k147, k148, k149, k150, k151, k152, k153, k154, k155, k156, k157, k158, k159, k160, k161, k162, k163, k164, k165, k166, k167, k168, k169, k170, k171, k172, k173, k174, k175, k176, k177, k178, k179, k180, k181, k182, k183, k184, k185, k186, k187, k188, k189, k190, k191, k192, k193, k194, k195, k196, k197, k198, k199, k200, k201, k202, k203, k204, k205, k206, k207, k208, k209, k210, k211, k212, k213, k214, k215, k216, k217, k218, k219, k220, k221, k222, k223, k224, k225, k226, k227, k228, k229, k230, k231, k232, k233, k234, k235, k236, k237, k238, k239, k240, k241, k242, k243, k244, k245, k246, k247, k248, k249, k250, k251, k252, k253, k254, k255, k256, k257, k258, k259, k260, k261, k262, k263, k264, k265, k266, k267, k268, k269], []⟩ wt := by
  conv => arg 2; whnf
  have hgl := hg.lt
  have hlen : ow.length ≤ 5 := by
    by_cases h : Fit3 sizes scope
    · rw [how h, ownOf_len]; exact hn
    · have := how2 h; omega
  have HKEEP : Hid (∀ w', Below wt.heap.size wt w' → Blk w' g 51 #[strV name, .int .i64 k, .slice SA sizes.length sc, v3] ∧ w'.ownsRow 0 3 1 (.slice SA sizes.length sc) sizes.length (nums sizes) ∧ w'.ownsRow 0 3 1 (.slice CA scope.length cc) scope.length (nums scope) ∧ Below w.heap.size w w') := fun w' hb => ⟨hg.under hb, own_under hs hb, own_under hc hb, bto hB hb⟩
  have hro := Reads.of_own ho
  by_cases hgood : anyBad ow = false ∧ inB other k = true
  · have hnew := tnew_any OA ow.length oc ow k other wt (by omega) hro (anyBad_no.1 hgood.1) hgood.2
    have HG := Lib.hid hgood
    clear hg hs hc ho hB hro hgood
    go_wp2_with fail
    refine hnew.mono ?_
    rintro e w5 ⟨tg, rfl, hT5, hb5⟩
    cases nothing with
    | true =>
      have HX : Hid (MidW w w5 g name k SA sc sizes scope CA cc ow.length none none v3) := ⟨(HKEEP.out w5 hb5).1, (HKEEP.out w5 hb5).2.1, (HKEEP.out w5 hb5).2.2.1, fun W hW => .inl ⟨rfl, rfl⟩, fun T' h => (by cases h), (HKEEP.out w5 hb5).2.2.2⟩
      clear hnew hT5 hb5 how how2
      go_upto_if 158 with fail
      repeat (first | (exact wr_mid HX.out.1 hgb HX.out.2.1 HX.out.2.2.1 HX.out.2.2.2.1 hn hsl hnl HX.out.2.2.2.2.1 HX.out.2.2.2.2.2 hok hfit hcount) | go_step | dsimp only)
    | false =>
      have HX : Hid (MidW w w5 g name k SA sc sizes scope CA cc ow.length (some ⟨tg, 0, none⟩) (some ⟨ow, k, other, fun _ => none⟩) v3) := ⟨(HKEEP.out w5 hb5).1, (HKEEP.out w5 hb5).2.1, (HKEEP.out w5 hb5).2.2.1, fun W hW => .inr ⟨tg, _, rfl, rfl, (hT5.keep hW fun q hq e => by subst e; omega).mono fun _ _ => trivial, fun _ => rfl, hlen, anyBad_no.1 HG.out.1, HG.out.2, rfl, by
          by_cases h : Fit3 sizes scope
          · exact .inl ⟨h, how h⟩
          · exact .inr ⟨h, by have := how2 h; show ow.length ≠ _; omega⟩⟩, fun T' h => (by cases h; rfl), (HKEEP.out w5 hb5).2.2.2⟩
      clear hnew hT5 hb5 how how2
      go_upto_if 158 with fail
      repeat (first | (exact wr_mid HX.out.1 hgb HX.out.2.1 HX.out.2.2.1 HX.out.2.2.2.1 hn hsl hnl HX.out.2.2.2.2.1 HX.out.2.2.2.2.2 hok hfit hcount) | go_step | dsimp only)
  · have hnew : ∃ er : Int, er ≠ 0 ∧ Calls Tryd.prog 25 #[.slice OA ow.length oc, .int .i64 k, .int .i64 other] wt fun e w' => e = .returned (.tuple #[.pointer none, .int .i64 er]) ∧ Below wt.heap.size wt w' := by
      cases hab : anyBad ow with
      | true => exact ⟨1, by decide, (tnew_bad OA ow.length oc ow k other wt (by omega) hro hab).mono fun e w' h => ⟨h.1, h.2 ▸ Below.refl _ _⟩⟩
      | false =>
        cases hib : inB other k with
        | true => exact absurd ⟨hab, hib⟩ hgood
        | false => exact ⟨3, by decide, (tnew_out OA ow.length oc ow k other wt (by omega) hro hab hib).mono fun e w' h => ⟨h.1, h.2 ▸ Below.refl _ _⟩⟩
    obtain ⟨er, her, hnew⟩ := hnew
    have herI : (er != 0) = true := by simp [her]
    clear hg hs hc ho hB hro hgood her
    go_wp2_with fail
    refine hnew.mono ?_
    rintro e w5 ⟨rfl, hb5⟩
    have HX : Hid (MidW w w5 g name k SA sc sizes scope CA cc ow.length none none v3) := ⟨(HKEEP.out w5 hb5).1, (HKEEP.out w5 hb5).2.1, (HKEEP.out w5 hb5).2.2.1, fun W hW => .inl ⟨rfl, rfl⟩, fun T' h => (by cases h), (HKEEP.out w5 hb5).2.2.2⟩
    clear hnew hb5 how how2
    cases nothing with
    | true =>
      go_upto_if 158 with fail
      repeat (first | (exact wr_mid HX.out.1 hgb HX.out.2.1 HX.out.2.2.1 HX.out.2.2.2.1 hn hsl hnl HX.out.2.2.2.2.1 HX.out.2.2.2.2.2 hok hfit hcount) | go_step | dsimp only)
    | false =>
      go_upto_if 158 with fail
      repeat (first | (exact wr_mid HX.out.1 hgb HX.out.2.1 HX.out.2.2.1 HX.out.2.2.2.1 hn hsl hnl HX.out.2.2.2.2.1 HX.out.2.2.2.2.2 hok hfit hcount) | go_step | dsimp only)
end Go.Proofs.YtafdijfbgkcnnaaDoor.wcp
/- WcspRight, from behind: the sizes of its own. -/
namespace Go.Proofs.YtafdijfbgkcnnaaDoor.wcp
open Go Go.RowKit Go.ChangeShapes Go.WideShapes Go.ChangeAt Go.Maps Go.Proofs.YtafdijfbgkcnnaaDoor.words Go.Proofs.YtafdijfbgkcnnaaDoor.scn
set_option linter.unusedVariables false
theorem count_bound : ∀ (l : List Int) (a : Int), 0 ≤ a → 0 ≤ l.foldl (fun c s => c * max (min s 33) 0) a ∧ l.foldl (fun c s => c * max (min s 33) 0) a ≤ a * 33 ^ l.length := by
  intro l
  induction l with
  | nil => intro a ha; simp; exact ha
  | cons s l ih =>
    intro a ha
    have h0 : 0 ≤ max (min s 33) 0 ∧ max (min s 33) 0 ≤ 33 := by omega
    have h1 := Int.mul_nonneg ha h0.1
    have h2 := Int.mul_le_mul_of_nonneg_left h0.2 ha
    obtain ⟨i1, i2⟩ := ih _ h1
    refine ⟨i1, Int.le_trans i2 ?_⟩
    have h3 : (0 : Int) ≤ 33 ^ l.length := Int.pow_nonneg (by omega)
    rw [List.length_cons, show a * 33 ^ (l.length + 1) = a * 33 * 33 ^ l.length by rw [Int.pow_succ, Int.mul_comm (33 ^ l.length) 33, Int.mul_assoc]]
    exact Int.mul_le_mul_of_nonneg_right h2 h3
theorem ownOf_snoc {zs l : List Int} {v : Int} : ownOf zs (l ++ [v]) = ownOf zs l ++ [zs.getD v.toNat 0] := by unfold ownOf; simp
theorem countO_snoc {l : List Int} {v : Int} : countO (l ++ [v]) = countO l * max (min v 33) 0 := by unfold countO; simp
def Fit4 (zs sc : List Int) (j : Nat) : Prop := (∀ v ∈ sc.take j, 0 ≤ v ∧ v < zs.length) ∧ (sc.take j).Nodup
theorem Fit4.all {zs sc : List Int} (h : Fit4 zs sc sc.length) : Fit3 zs sc := by unfold Fit4 at h; rw [List.take_length] at h; exact h
theorem Fit4.next {zs sc : List Int} {j : Nat} {v : Int} (h : Fit4 zs sc j) (hv : sc[j]? = some v) (h0 : 0 ≤ v) (h1 : v < zs.length) (h2 : v ∉ sc.take j) : Fit4 zs sc (j + 1) := by
  unfold Fit4 at h ⊢
  rw [take_snocI hv]
  refine ⟨fun x hx => ?_, ?_⟩
  · rcases List.mem_append.1 hx with hx | hx
    · exact h.1 x hx
    · rw [List.mem_singleton.1 hx]; exact ⟨h0, h1⟩
  · refine List.nodup_append.2 ⟨h.2, by simp, fun x hx y hy e => ?_⟩
    rw [List.mem_singleton.1 hy] at e
    exact h2 (e ▸ hx)
theorem fit3_at {zs sc : List Int} {j : Nat} {v : Int} (h : Fit3 zs sc) (hv : sc[j]? = some v) : 0 ≤ v ∧ v < zs.length ∧ v ∉ sc.take j := by
  refine ⟨(h.1 v (List.mem_of_getElem? hv)).1, (h.1 v (List.mem_of_getElem? hv)).2, fun hm => ?_⟩
  obtain ⟨i, hi⟩ := List.getElem?_of_mem hm
  have hij : i < j := by have := (List.getElem?_eq_some_iff.1 hi).1; rw [List.length_take] at this; omega
  rw [List.getElem?_take_of_lt hij] at hi
  have := nodup_at h.2 hi hv
  omega
set_option maxRecDepth 1000000 in
set_option maxHeartbeats 8000000 in
theorem wr_own {w wt : World} {g : Nat} {name : List UInt8} {k other : Int} {nothing : Bool} {SA : Option Addr} {sc : Nat} {sizes scope : List Int} {CA : Option Addr} {cc : Nat} {v3 : Value} {okb : Bool}
    (hg : Blk wt g 51 #[strV name, .int .i64 k, .slice SA sizes.length sc, v3]) (hgb : w.heap.size ≤ g) (hs : wt.ownsRow 0 3 1 (.slice SA sizes.length sc) sizes.length (nums sizes)) (hc : wt.ownsRow 0 3 1 (.slice CA scope.length cc) scope.length (nums scope))
    (hn : scope.length ≤ 5) (hsl : sizes.length ≤ 1000000) (hnl : name.length ≤ 1000000) (hB : Below w.heap.size w wt) (hok : okb = true ↔ OkB name k sizes)
    {k6 k7 k8 k9 k10 k11 k12 k15 k16 k17 k21 k22 k23 k24 k25 k26 k27 k28 k29 k30 k31 k32 k33 k34 k35 k36 k37 k38 k39 k40 k41 k42 k43 k44 k45 k46 k47 k48 k49 k50 k51 k52 k53 k54 k55 k56 k57 k58 k59 k60 k61 k62 k63 k64 k65 k66 k67 k68 k69 k70 k71 k72 k73 k74 k75 k76 k77 k78 k79 k80 k81 k82 k83 k84 k85 k86 k87 k88 k89 k90 k91 k92 k93 k94 k95 k96 k97 k98 k99 k100 k101 k102 k103 k104 k105 k106 k107 k108 k109 k110 k111 k112 k113 k114 k115 k116 k117 k118 k119 k120 k121 k122 k123 k124 k125 k126 k127 k128 k129 k130 k131 k132 k133 k134 k135 k136 k137 k138 k139 k140 k141 k142 k143 k144 k145 k146 k147 k148 k149 k150 k151 k152 k153 k154 k155 k156 k157 k158 k159 k160 k161 k162 k163 k164 k165 k166 k167 k168 k169 k170 k171 k172 k173 k174 k175 k176 k177 k178 k179 k180 k181 k182 k183 k184 k185 k186 k187 k188 k189 k190 k191 k192 k193 k194 k195 k196 k197 k198 k199 k200 k201 k202 k203 k204 k205 k206 k207 k208 k209 k210 k211 k212 k213 k214 k215 k216 k217 k218 k219 k220 k221 k222 k223 k224 k225 k226 k227 k228 k229 k230 k231 k232 k233 k234 k235 k236 k237 k238 k239 k240 k241 k242 k243 k244 k245 k246 k247 k248 k249 k250 k251 k252 k253 k254 k255 k256 k257 k258 k259 k260 k261 k262 k263 k264 k265 k266 k267 k268 k269 : Value} :
    Code.wp Tryd.prog (sfx 10 wrbody) (bodyPost Tryd.prog Tryd.f8 fun e w' => e = .returned (.bool true) ∧ Below w.heap.size w w') ⟨#[strV name, .int .i64 k, .slice SA sizes.length sc, .slice CA scope.length cc, .int .i64 other, .bool nothing, k6, k7, k8, k9, k10, k11, k12, .pointer (some ⟨g, 0, none⟩), .bool okb, k15, k16, k17, .slice none 0 0, .bool true, .int .i64 1, k21, k22, k23, k24, k25, k26, k27, k28, k29, k30, k31, k32, k33, k34, k35, k36, k37, k38, k39, k40, k41, k42, k43, k44, k45, k46, k47, k48, k49, k50, k51, k52, k53, k54, k55, k56, k57, k58, k59, k60, k61, k62, k63, k64, k65, k66, k67, k68, k69, k70, k71, k72, k73, k74, k75, k76, k77, k78, k79, k80, k81, k82, k83, k84, k85, k86, k87, k88, k89, k90, k91, k92, k93, k94, k95, k96, k97, k98, k99, k100, k101, k102, k103, k104, k105, k106, k107, k108, k109, k110, k111, k112, k113, k114, k115, k116, k117, k118, k119, k120, k121, k122, k123, k124, k125, k126, k127, k128, k129, k130, k131, k132, k133, k134, k135, k136, k137, k138, k139, k140, k141, k142, k143, k144, k145, k146, k147, k148, k149, k150, k151, k152, k153, k154, k155, k156, k157, k158, k159, k160, k161, k162, k163, k164, k165, k166, k167, k168, k169, k170, k171, k172, k173, k174, k175, k176, k177, k178, k179, k180, k181, k182, k183, k184, k185, k186, k187, k188, k189, k190, k191, k192, k193, k194, k195, k196, k197, k198, k199, k200, k201, k202, k203, k204, k205, k206, k207, k208, k209, k210, k211, k212, k213, k214, k215, k216, k217, k218, k219, k220, k221, k222, k223, k224, k225, k226, k227, k228, k229, k230, k231, k232, k233, k234, k235, k236, k237, k238, k239, k240, k241, k242, k243, k244, k245, k246, k247, k248, k249, k250, k251, k252, k253, k254, k255, k256, k257, k258, k259, k260, k261, k262, k263, k264, k265, k266, k267, k268, k269], []⟩ wt := by
  conv => arg 2; whnf
  obtain ⟨i6, h60, h61, h62, h63⟩ := info_parts infoI
  have HG := Lib.hid hg
  have HS := Lib.hid hs
  have HC := Lib.hid hc
  have HB := Lib.hid hB
  have HOK := Lib.hid hok
  clear hg hs hc hB hok
  go_wp2_with fail
  go_loopw [18, 19, 20, 21, 22, 107] (fun ov fv cv _ _ jv wr => ∃ (j : Nat) (wn : World) (fb : Bool) (ow : List Int) (OA : Option Addr) (oc : Nat) (ct : Int), jv = .int .i64 j ∧ j ≤ scope.length ∧ ov = .slice OA ow.length oc ∧ fv = .bool fb ∧ cv = .int .i64 ct ∧ wn = wr ∧ Hid (wn.ownsRow wt.heap.size 3 1 (.slice OA ow.length oc) ow.length (nums ow)) ∧ Hid (Below wt.heap.size wt wn) ∧
    (fb = true → Hid (Fit4 sizes scope j ∧ ow = ownOf sizes (scope.take j) ∧ ct = countO ow)) ∧ (fb = false → Hid (¬ Fit3 sizes scope) ∧ ow.length < j)) (fun _ _ _ _ _ jv _ => scope.length - (intOf jv).toNat)
  case atStart => exact ⟨0, wt, true, [], none, 0, 1, rfl, Nat.zero_le _, rfl, rfl, rfl, rfl, World.ownsRow_nil _ _ _ _, Below.refl _ _, fun _ => ⟨⟨by simp, by simp⟩, by simp [ownOf], rfl⟩, fun h => by cases h⟩
  case round =>
    obtain ⟨j, wn, fb, ow, OA, oc, ct, rfl, hj, rfl, rfl, rfl, rfl, ho, hb, hft, hff⟩ := hrel
    have HFT := Lib.hid hft
    have HFF := Lib.hid hff
    clear hft hff
    by_cases hlt : j < scope.length
    · obtain ⟨ad, v, rfl, _, hv, hcl⟩ := (Reads.of_own (own_under HC.out hb.out)).num hlt
      have hjI : decide ((j : Int) < (scope.length : Int)) = true := decide_eq_true (by omega)
      have HV := Lib.hid hv
      clear hv
      have HWL : Hid (ow.length ≤ j) := by
        cases fb with
        | true => obtain ⟨-, h1, -⟩ := (HFT.out rfl).out; unfold Hid; rw [h1, ownOf_len, List.length_take]; omega
        | false => have := (HFF.out rfl).2; unfold Hid; omega
      cases fb with
      | false =>
        have HNF := (HFF.out rfl).1
        have hwl := (HFF.out rfl).2
        clear HFT HFF
        go_wp2_with fail
        go_roundw
        case measure => simp [intOf]; omega
        case rel => exact ⟨j + 1, wn, false, ow, OA, oc, ct, by go_num, by omega, by first | rfl | trivial, by first | rfl | trivial, by first | rfl | trivial, by first | rfl | trivial, ho, hb, fun h => (by cases h), fun _ => ⟨HNF, by omega⟩⟩
      | true =>
        have HF4 := HFT.out rfl
        have hwlj : j = ow.length := by obtain ⟨-, h1, -⟩ := HF4.out; rw [h1, ownOf_len, List.length_take]; omega
        clear HFT HFF HWL
        subst hwlj
        by_cases h0 : 0 ≤ v
        · obtain ⟨vn, rfl⟩ : ∃ vn : Nat, v = vn := ⟨v.toNat, by omega⟩
          have h0I : decide ((0 : Int) ≤ (vn : Int)) = true := decide_eq_true h0
          by_cases h1 : (vn : Int) < (sizes.length : Int)
          · have h1I : decide ((vn : Int) < (sizes.length : Int)) = true := decide_eq_true h1
            have hix := indexI_any (some ad) scope.length cc scope vn wn (by omega) (Reads.of_own (own_under HC.out hb.out))
            go_wp2_with fail
            refine hix.mono ?_
            rintro e w5 ⟨⟨r, rfl, hr⟩, hb5⟩
            clear hix hcl
            by_cases hrj : r = (ow.length : Int)
            · subst hrj
              have hno : (vn : Int) ∉ scope.take ow.length := by
                rcases hr with ⟨m, hm, hm2, hm3⟩ | ⟨hm, -⟩
                · obtain rfl : m = ow.length := by omega
                  exact hm3
                · omega
              have hb5' : Below wt.heap.size wt w5 := bto hb.out hb5
              obtain ⟨ad2, z, rfl, _, hz, hc2⟩ := (Reads.of_own (own_under HS.out hb5')).num (k := vn) (by omega)
              have HZ := Lib.hid hz
              have hA1 := (own_under ho.out hb5).alloc (.cells #[.int .i64 z] 3)
              have hr1 : Reads (w5.alloc (.cells #[.int .i64 z] 3)) (w5.alloc (.cells #[.int .i64 z] 3)).heap.size 1 (some ⟨w5.heap.size, 0, none⟩) 1 (nums [z]) := reads_block (t := 3) (heap_alloc_new _ _) rfl
              have hszz : wt.heap.size ≤ (w5.alloc (.cells #[.int .i64 z] 3)).heap.size := by have := hb5'.size; simp; omega
              have HB5 := Lib.hid hb5'
              have HO5 := Lib.hid hA1
              have HNO := Lib.hid hno
              have HB51 : Hid (Below wt.heap.size wt (w5.alloc (.cells #[.int .i64 z] 3))) := HB5.out.trans ((bone w5 (.cells #[.int .i64 z] 3)).mono HB5.out.size)
              have h1N : vn < sizes.length := by omega
              clear hr hb5 hb5' hno hz h0 h1
              go_upto_region 25 with (first | (at_builtin; go_loud (refine wpList_append_any _ rfl (.tmp 131) (.tmp 136) _ rfl wt.heap.size 3 i6 _ 1 8 Tryd.underlying23 h60 h61 h62 h63 rfl (by omega) (.slice OA ow.length oc) ow.length _ rfl hA1 (w5.alloc (.cells #[.int .i64 z] 3)).heap.size (some ⟨w5.heap.size, 0, none⟩) 1 1 (nums [z]) rfl hr1 nums_one (by simp only [maxLen]; omega) (by omega) hszz ?_; intro v6 w6 hown6 hg6 hat6; clear hat6; obtain ⟨A6, c6, rfl⟩ := own_shape hown6; have hB6 : Below wt.heap.size wt w6 := HB51.out.trans ((Tch.of_grown hg6 (S := fun q => some q = (Value.slice OA ow.length oc).ownBlock) fun q _ hq => hq).below (by have := HB51.out.size; simp at this ⊢; omega) fun q hq h => by have := (own_in HO5.out h.symm).1; omega); obtain ⟨ad3, z3, e3, _, hz3, hc3⟩ := (Reads.of_own (own_under HS.out hB6)).num (k := vn) (by omega); obtain rfl := Option.some.inj e3; obtain rfl := Option.some.inj (hz3.symm.trans HZ.out); have HO6 := Lib.hid hown6; have HB6 := Lib.hid hB6; clear hown6 hg6 hA1 hr1 hB6 hz3)) | fail)
              have hc2' := count_bound ow 1 (by omega)
              have hct : 0 ≤ ct ∧ ct ≤ 39135393 := by
                obtain ⟨-, -, h3⟩ := HF4.out
                rw [h3]
                unfold countO
                refine ⟨hc2'.1, Int.le_trans hc2'.2 ?_⟩
                have h5 : ow.length ≤ 5 := by omega
                have : (33:Int) ^ ow.length ≤ 33 ^ 5 := by
                  rcases (by omega : ow.length = 0 ∨ ow.length = 1 ∨ ow.length = 2 ∨ ow.length = 3 ∨ ow.length = 4 ∨ ow.length = 5) with h | h | h | h | h | h <;> rw [h] <;> decide
                omega
              have hmp : 0 ≤ ct * max (min z3 33) 0 ∧ ct * max (min z3 33) 0 ≤ 39135393 * 33 := by
                refine ⟨Int.mul_nonneg hct.1 (by omega), ?_⟩
                exact Int.le_trans (Int.mul_le_mul_of_nonneg_left (c := ct) (show max (min z3 33) 0 ≤ 33 by omega) hct.1) (Int.mul_le_mul_of_nonneg_right hct.2 (by omega))
              have hwr : Hid (wrap64 (ct * max (min z3 33) 0) = ct * max (min z3 33) 0) := by unfold Hid wrap64; omega
              clear hc2' hct hmp hc2
              go_wp2_with fail
              go_roundw
              case measure => simp [intOf]; omega
              case rel =>
                refine ⟨ow.length + 1, w6, true, ow ++ [z3], A6, c6, countO (ow ++ [z3]), by go_num, by omega, by simp, rfl, ?_, rfl, ?_, HB6, fun _ => ?_, fun h => by cases h⟩
                · rw [hwr.out, countO_snoc, HF4.out.2.2]
                · unfold Hid
                  have := HO6.out
                  simpa [nums] using this
                · refine Lib.hid ⟨HF4.out.1.next HV.out (by omega) (by omega) HNO.out, ?_, rfl⟩
                  rw [take_snocI HV.out, ownOf_snoc, ← HF4.out.2.1]
                  congr 2
                  have := HZ.out
                  simp [List.getD, this]
            · have hrI : (r == (ow.length : Int)) = false := by simp [hrj]
              have HNF : Hid (¬ Fit3 sizes scope) := fun hf => by
                have := (fit3_at hf HV.out).2.2
                rcases hr with ⟨m, rfl, hm2, hm3⟩ | ⟨-, hm⟩
                · obtain ⟨i, hi⟩ := List.getElem?_of_mem (List.mem_of_getElem? hm2)
                  have := nodup_at hf.2 hm2 HV.out
                  omega
                · exact hm (List.mem_of_getElem? HV.out)
              have hb5' : Below wt.heap.size wt w5 := bto hb.out hb5
              have HB5 := Lib.hid hb5'
              have HO5 := Lib.hid (own_under ho.out hb5)
              clear hr hb5 hb5' hrj
              go_wp2_with fail
              go_roundw
              case measure => simp [intOf]; omega
              case rel => exact ⟨ow.length + 1, w5, false, ow, OA, oc, ct, by go_num, by omega, by first | rfl | trivial, by first | rfl | trivial, by first | rfl | trivial, by first | rfl | trivial, HO5, HB5, fun h => (by cases h), fun _ => ⟨HNF, by omega⟩⟩
          · have h1I : decide ((vn : Int) < (sizes.length : Int)) = false := decide_eq_false h1
            have HNF : Hid (¬ Fit3 sizes scope) := fun hf => h1 (fit3_at hf HV.out).2.1
            have h1N : decide (vn < sizes.length) = false := decide_eq_false (by omega)
            have h1M : ¬ (vn < sizes.length) := by omega
            clear h1
            go_wp2_with fail
            go_roundw
            case measure => simp [intOf]; omega
            case rel => exact ⟨ow.length + 1, wn, false, ow, OA, oc, ct, by go_num, by omega, by first | rfl | trivial, by first | rfl | trivial, by first | rfl | trivial, by first | rfl | trivial, ho, hb, fun h => (by cases h), fun _ => ⟨HNF, by omega⟩⟩
        · have h0I : decide (0 ≤ v) = false := decide_eq_false h0
          have HNF : Hid (¬ Fit3 sizes scope) := fun hf => h0 (fit3_at hf HV.out).1
          clear h0
          go_wp2_with fail
          go_roundw
          case measure => simp [intOf]; omega
          case rel => exact ⟨ow.length + 1, wn, false, ow, OA, oc, ct, by go_num, by omega, by first | rfl | trivial, by first | rfl | trivial, by first | rfl | trivial, by first | rfl | trivial, ho, hb, fun h => (by cases h), fun _ => ⟨HNF, by omega⟩⟩
    · obtain rfl : j = scope.length := by omega
      have hjI : decide ((scope.length : Int) < (scope.length : Int)) = false := decide_eq_false (by omega)
      have HX : Hid (Blk wn g 51 #[strV name, .int .i64 k, .slice SA sizes.length sc, v3] ∧ wn.ownsRow 0 3 1 (.slice SA sizes.length sc) sizes.length (nums sizes) ∧ wn.ownsRow 0 3 1 (.slice CA scope.length cc) scope.length (nums scope) ∧ wn.ownsRow 0 3 1 (.slice OA ow.length oc) ow.length (nums ow) ∧ Below w.heap.size w wn) := ⟨HG.out.under hb.out, own_under HS.out hb.out, own_under HC.out hb.out, own_base ho.out (Nat.zero_le _), bto HB.out hb.out⟩
      have hfit : fb = true ↔ Fit3 sizes scope := by
        cases fb with
        | true => exact ⟨fun _ => (HFT.out rfl).out.1.all, fun _ => rfl⟩
        | false => exact ⟨fun h => (by cases h), fun h => absurd h (HFF.out rfl).1.out⟩
      have how : Fit3 sizes scope → ow = ownOf sizes scope ∧ ct = countO (ownOf sizes scope) := fun h => by
        obtain ⟨-, h1, h2⟩ := (HFT.out (hfit.2 h)).out
        rw [List.take_length] at h1
        exact ⟨h1, by rw [h2, h1]⟩
      have how2 : ¬ Fit3 sizes scope → ow.length < scope.length := fun h => (HFF.out (by cases fb with | true => exact absurd (hfit.1 rfl) h | false => rfl)).2
      repeat (first | (exact wr_new HX.out.1 hgb HX.out.2.1 HX.out.2.2.1 HX.out.2.2.2.1 hn hsl hnl HX.out.2.2.2.2 HOK.out hfit (fun h => (how h).2) (fun h => (how h).1) how2) | go_step | dsimp only)
end Go.Proofs.YtafdijfbgkcnnaaDoor.wcp
/- WcspRight, from behind: are its sizes right, is its name a word. -/
namespace Go.Proofs.YtafdijfbgkcnnaaDoor.wcp
open Go Go.RowKit Go.ChangeShapes Go.WideShapes Go.ChangeAt Go.Maps Go.Proofs.YtafdijfbgkcnnaaDoor.words Go.Proofs.YtafdijfbgkcnnaaDoor.scn
set_option linter.unusedVariables false
theorem take_all_step {l : List Int} {P : Int → Prop} {j : Nat} {v : Int} (hv : l[j]? = some v) : (∀ z ∈ l.take (j + 1), P z) ↔ ((∀ z ∈ l.take j, P z) ∧ P v) := by
  rw [take_snocI hv]
  refine ⟨fun h => ⟨fun z hz => h z (List.mem_append.2 (.inl hz)), h v (by simp)⟩, fun h z hz => ?_⟩
  rcases List.mem_append.1 hz with hz | hz
  · exact h.1 z hz
  · rw [List.mem_singleton.1 hz]; exact h.2
set_option maxRecDepth 1000000 in
set_option maxHeartbeats 8000000 in
theorem wr_size {w wt : World} {g : Nat} {name : List UInt8} {k other : Int} {nothing : Bool} {SA : Option Addr} {sc : Nat} {sizes scope : List Int} {CA : Option Addr} {cc : Nat} {v3 : Value} {b0 : Bool}
    (hg : Blk wt g 51 #[strV name, .int .i64 k, .slice SA sizes.length sc, v3]) (hgb : w.heap.size ≤ g) (hs : wt.ownsRow 0 3 1 (.slice SA sizes.length sc) sizes.length (nums sizes)) (hc : wt.ownsRow 0 3 1 (.slice CA scope.length cc) scope.length (nums scope))
    (hn : scope.length ≤ 5) (hsl : sizes.length ≤ 1000000) (hnl : name.length ≤ 1000000) (hB : Below w.heap.size w wt)
    (hok : b0 = true ↔ (IsWord name ∧ sizes ≠ [] ∧ (1 ≤ k ∧ k ≤ 2147483648)))
    {k6 k7 k8 k9 k10 k11 k12 k15 k16 k17 k18 k19 k20 k21 k22 k23 k24 k25 k26 k27 k28 k29 k30 k31 k32 k33 k34 k35 k36 k37 k38 k39 k40 k41 k42 k43 k44 k45 k46 k47 k48 k49 k50 k51 k52 k53 k54 k55 k56 k57 k58 k59 k60 k61 k62 k63 k64 k65 k66 k67 k68 k69 k70 k71 k72 k73 k74 k75 k76 k77 k78 k79 k80 k81 k82 k83 k84 k85 k86 k87 k88 k89 k90 k91 k92 k93 k94 k95 k96 k97 k98 k99 k100 k101 k102 k103 k104 k105 k106 k107 k108 k109 k110 k111 k112 k113 k114 k115 k116 k117 k118 k119 k120 k121 k122 k123 k124 k125 k126 k127 k128 k129 k130 k131 k132 k133 k134 k135 k136 k137 k138 k139 k140 k141 k142 k143 k144 k145 k146 k147 k148 k149 k150 k151 k152 k153 k154 k155 k156 k157 k158 k159 k160 k161 k162 k163 k164 k165 k166 k167 k168 k169 k170 k171 k172 k173 k174 k175 k176 k177 k178 k179 k180 k181 k182 k183 k184 k185 k186 k187 k188 k189 k190 k191 k192 k193 k194 k195 k196 k197 k198 k199 k200 k201 k202 k203 k204 k205 k206 k207 k208 k209 k210 k211 k212 k213 k214 k215 k216 k217 k218 k219 k220 k221 k222 k223 k224 k225 k226 k227 k228 k229 k230 k231 k232 k233 k234 k235 k236 k237 k238 k239 k240 k241 k242 k243 k244 k245 k246 k247 k248 k249 k250 k251 k252 k253 k254 k255 k256 k257 k258 k259 k260 k261 k262 k263 k264 k265 k266 k267 k268 k269 : Value} :
    Code.wp Tryd.prog (sfx 6 wrbody) (bodyPost Tryd.prog Tryd.f8 fun e w' => e = .returned (.bool true) ∧ Below w.heap.size w w') ⟨#[strV name, .int .i64 k, .slice SA sizes.length sc, .slice CA scope.length cc, .int .i64 other, .bool nothing, k6, k7, k8, k9, k10, k11, k12, .pointer (some ⟨g, 0, none⟩), .bool b0, k15, k16, k17, k18, k19, k20, k21, k22, k23, k24, k25, k26, k27, k28, k29, k30, k31, k32, k33, k34, k35, k36, k37, k38, k39, k40, k41, k42, k43, k44, k45, k46, k47, k48, k49, k50, k51, k52, k53, k54, k55, k56, k57, k58, k59, k60, k61, k62, k63, k64, k65, k66, k67, k68, k69, k70, k71, k72, k73, k74, k75, k76, k77, k78, k79, k80, k81, k82, k83, k84, k85, k86, k87, k88, k89, k90, k91, k92, k93, k94, k95, k96, k97, k98, k99, k100, k101, k102, k103, k104, k105, k106, k107, k108, k109, k110, k111, k112, k113, k114, k115, k116, k117, k118, k119, k120, k121, k122, k123, k124, k125, k126, k127, k128, k129, k130, k131, k132, k133, k134, k135, k136, k137, k138, k139, k140, k141, k142, k143, k144, k145, k146, k147, k148, k149, k150, k151, k152, k153, k154, k155, k156, k157, k158, k159, k160, k161, k162, k163, k164, k165, k166, k167, k168, k169, k170, k171, k172, k173, k174, k175, k176, k177, k178, k179, k180, k181, k182, k183, k184, k185, k186, k187, k188, k189, k190, k191, k192, k193, k194, k195, k196, k197, k198, k199, k200, k201, k202, k203, k204, k205, k206, k207, k208, k209, k210, k211, k212, k213, k214, k215, k216, k217, k218, k219, k220, k221, k222, k223, k224, k225, k226, k227, k228, k229, k230, k231, k232, k233, k234, k235, k236, k237, k238, k239, k240, k241, k242, k243, k244, k245, k246, k247, k248, k249, k250, k251, k252, k253, k254, k255, k256, k257, k258, k259, k260, k261, k262, k263, k264, k265, k266, k267, k268, k269], []⟩ wt := by
  conv => arg 2; whnf
  have HG := Lib.hid hg
  have HS := Lib.hid hs
  have HC := Lib.hid hc
  have HB := Lib.hid hB
  have HOK := Lib.hid hok
  clear hg hs hc hB hok
  go_wp2_with fail
  go_loopw [14, 17, 91] (fun bv _ jv wr => ∃ (j : Nat) (b : Bool), jv = .int .i64 j ∧ j ≤ sizes.length ∧ bv = .bool b ∧ wt = wr ∧ Hid (b = true ↔ ((IsWord name ∧ sizes ≠ [] ∧ (1 ≤ k ∧ k ≤ 2147483648)) ∧ ∀ z ∈ sizes.take j, 1 ≤ z ∧ z ≤ 32))) (fun _ _ jv _ => sizes.length - (intOf jv).toNat)
  case atStart => exact ⟨0, b0, rfl, Nat.zero_le _, rfl, rfl, by unfold Hid; rw [HOK.out]; simp⟩
  case round =>
    obtain ⟨j, b, rfl, hj, rfl, rfl, hbi⟩ := hrel
    by_cases hlt : j < sizes.length
    · obtain ⟨ad, v, rfl, _, hv, hcl⟩ := (Reads.of_own HS.out).num hlt
      have hjI : decide ((j : Int) < (sizes.length : Int)) = true := decide_eq_true (by omega)
      have HST : Hid ((∀ z ∈ sizes.take (j + 1), 1 ≤ z ∧ z ≤ 32) ↔ ((∀ z ∈ sizes.take j, 1 ≤ z ∧ z ≤ 32) ∧ (1 ≤ v ∧ v ≤ 32))) := take_all_step hv
      clear hv
      cases b with
      | false =>
        have hno : Hid (¬ ((IsWord name ∧ sizes ≠ [] ∧ (1 ≤ k ∧ k ≤ 2147483648)) ∧ ∀ z ∈ sizes.take j, 1 ≤ z ∧ z ≤ 32)) := fun h => by have := hbi.out.2 h; cases this
        clear hbi
        go_wp2_with fail
        go_roundw
        case measure => simp [intOf]; omega
        case rel => exact ⟨j + 1, false, by go_num, hlt, rfl, by first | rfl | trivial, ⟨fun h => (by cases h), fun h => absurd ⟨h.1, (HST.out.1 h.2).1⟩ hno.out⟩⟩
      | true =>
        have hyes := Lib.hid (hbi.out.1 rfl)
        clear hbi
        by_cases h0 : 1 ≤ v
        · have hI0 : decide (1 ≤ v) = true := decide_eq_true h0
          by_cases h1 : v ≤ 32
          · have hI1 : decide (v ≤ 32) = true := decide_eq_true h1
            go_wp2_with fail
            go_roundw
            case measure => simp [intOf]; omega
            case rel => exact ⟨j + 1, true, by go_num, hlt, rfl, by first | rfl | trivial, ⟨fun _ => ⟨hyes.out.1, HST.out.2 ⟨hyes.out.2, h0, h1⟩⟩, fun _ => rfl⟩⟩
          · have hI1 : decide (v ≤ 32) = false := decide_eq_false h1
            go_wp2_with fail
            go_roundw
            case measure => simp [intOf]; omega
            case rel => exact ⟨j + 1, false, by go_num, hlt, rfl, by first | rfl | trivial, ⟨fun h => (by cases h), fun h => absurd (HST.out.1 h.2).2.2 h1⟩⟩
        · have hI0 : decide (1 ≤ v) = false := decide_eq_false h0
          go_wp2_with fail
          go_roundw
          case measure => simp [intOf]; omega
          case rel => exact ⟨j + 1, false, by go_num, hlt, rfl, by first | rfl | trivial, ⟨fun h => (by cases h), fun h => absurd (HST.out.1 h.2).2.1 h0⟩⟩
    · obtain rfl : j = sizes.length := by omega
      have hjI : decide ((sizes.length : Int) < (sizes.length : Int)) = false := decide_eq_false (by omega)
      have HF : Hid (b = true ↔ OkB name k sizes) := by
        unfold Hid OkB
        rw [hbi.out, List.take_length]
        exact ⟨fun h => ⟨h.1.1, h.1.2.1, h.1.2.2, h.2⟩, fun h => ⟨⟨h.1, h.2.1, h.2.2.1⟩, h.2.2.2⟩⟩
      clear hbi
      repeat (first | (exact wr_own HG.out hgb HS.out HC.out hn hsl hnl HB.out HF.out) | go_step | dsimp only)
set_option maxRecDepth 1000000 in
set_option maxHeartbeats 8000000 in
theorem wr_name {w wt : World} {g : Nat} {name : List UInt8} {k other : Int} {nothing : Bool} {SA : Option Addr} {sc : Nat} {sizes scope : List Int} {CA : Option Addr} {cc : Nat} {v3 : Value} {b0 : Bool}
    (hg : Blk wt g 51 #[strV name, .int .i64 k, .slice SA sizes.length sc, v3]) (hgb : w.heap.size ≤ g) (hs : wt.ownsRow 0 3 1 (.slice SA sizes.length sc) sizes.length (nums sizes)) (hc : wt.ownsRow 0 3 1 (.slice CA scope.length cc) scope.length (nums scope))
    (hn : scope.length ≤ 5) (hsl : sizes.length ≤ 1000000) (hnl : name.length ≤ 1000000) (hB : Below w.heap.size w wt)
    (hok : b0 = true ↔ (name ≠ [] ∧ sizes ≠ [] ∧ (1 ≤ k ∧ k ≤ 2147483648)))
    {k6 k7 k8 k9 k10 k11 k12 k15 k16 k17 k18 k19 k20 k21 k22 k23 k24 k25 k26 k27 k28 k29 k30 k31 k32 k33 k34 k35 k36 k37 k38 k39 k40 k41 k42 k43 k44 k45 k46 k47 k48 k49 k50 k51 k52 k53 k54 k55 k56 k57 k58 k59 k60 k61 k62 k63 k64 k65 k66 k67 k68 k69 k70 k71 k72 k73 k74 k75 k76 k77 k78 k79 k80 k81 k82 k83 k84 k85 k86 k87 k88 k89 k90 k91 k92 k93 k94 k95 k96 k97 k98 k99 k100 k101 k102 k103 k104 k105 k106 k107 k108 k109 k110 k111 k112 k113 k114 k115 k116 k117 k118 k119 k120 k121 k122 k123 k124 k125 k126 k127 k128 k129 k130 k131 k132 k133 k134 k135 k136 k137 k138 k139 k140 k141 k142 k143 k144 k145 k146 k147 k148 k149 k150 k151 k152 k153 k154 k155 k156 k157 k158 k159 k160 k161 k162 k163 k164 k165 k166 k167 k168 k169 k170 k171 k172 k173 k174 k175 k176 k177 k178 k179 k180 k181 k182 k183 k184 k185 k186 k187 k188 k189 k190 k191 k192 k193 k194 k195 k196 k197 k198 k199 k200 k201 k202 k203 k204 k205 k206 k207 k208 k209 k210 k211 k212 k213 k214 k215 k216 k217 k218 k219 k220 k221 k222 k223 k224 k225 k226 k227 k228 k229 k230 k231 k232 k233 k234 k235 k236 k237 k238 k239 k240 k241 k242 k243 k244 k245 k246 k247 k248 k249 k250 k251 k252 k253 k254 k255 k256 k257 k258 k259 k260 k261 k262 k263 k264 k265 k266 k267 k268 k269 : Value} :
    Code.wp Tryd.prog (sfx 5 wrbody) (bodyPost Tryd.prog Tryd.f8 fun e w' => e = .returned (.bool true) ∧ Below w.heap.size w w') ⟨#[strV name, .int .i64 k, .slice SA sizes.length sc, .slice CA scope.length cc, .int .i64 other, .bool nothing, k6, k7, k8, k9, k10, k11, k12, .pointer (some ⟨g, 0, none⟩), .bool b0, k15, k16, k17, k18, k19, k20, k21, k22, k23, k24, k25, k26, k27, k28, k29, k30, k31, k32, k33, k34, k35, k36, k37, k38, k39, k40, k41, k42, k43, k44, k45, k46, k47, k48, k49, k50, k51, k52, k53, k54, k55, k56, k57, k58, k59, k60, k61, k62, k63, k64, k65, k66, k67, k68, k69, k70, k71, k72, k73, k74, k75, k76, k77, k78, k79, k80, k81, k82, k83, k84, k85, k86, k87, k88, k89, k90, k91, k92, k93, k94, k95, k96, k97, k98, k99, k100, k101, k102, k103, k104, k105, k106, k107, k108, k109, k110, k111, k112, k113, k114, k115, k116, k117, k118, k119, k120, k121, k122, k123, k124, k125, k126, k127, k128, k129, k130, k131, k132, k133, k134, k135, k136, k137, k138, k139, k140, k141, k142, k143, k144, k145, k146, k147, k148, k149, k150, k151, k152, k153, k154, k155, k156, k157, k158, k159, k160, k161, k162, k163, k164, k165, k166, k167, k168, k169, k170, k171, k172, k173, k174, k175, k176, k177, k178, k179, k180, k181, k182, k183, k184, k185, k186, k187, k188, k189, k190, k191, k192, k193, k194, k195, k196, k197, k198, k199, k200, k201, k202, k203, k204, k205, k206, k207, k208, k209, k210, k211, k212, k213, k214, k215, k216, k217, k218, k219, k220, k221, k222, k223, k224, k225, k226, k227, k228, k229, k230, k231, k232, k233, k234, k235, k236, k237, k238, k239, k240, k241, k242, k243, k244, k245, k246, k247, k248, k249, k250, k251, k252, k253, k254, k255, k256, k257, k258, k259, k260, k261, k262, k263, k264, k265, k266, k267, k268, k269], []⟩ wt := by
  conv => arg 2; whnf
  have HG := Lib.hid hg
  have HS := Lib.hid hs
  have HC := Lib.hid hc
  have HB := Lib.hid hB
  have HOK := Lib.hid hok
  clear hg hs hc hB hok
  have hnz : (⟨name.toArray⟩ : ByteArray).size = name.length := by simp [ByteArray.size]
  go_wp2_with fail
  go_loopw [14, 15, 72] (fun bv _ jv wr => ∃ (j : Nat) (b : Bool), jv = .int .i64 j ∧ j ≤ name.length ∧ bv = .bool b ∧ wt = wr ∧ Hid (b = true ↔ ((name ≠ [] ∧ sizes ≠ [] ∧ (1 ≤ k ∧ k ≤ 2147483648)) ∧ ∀ q, q < j → isIn (at_ name q) = true))) (fun _ _ jv _ => name.length - (intOf jv).toNat)
  case atStart => exact ⟨0, b0, rfl, Nat.zero_le _, rfl, rfl, by unfold Hid; rw [HOK.out]; exact ⟨fun h => ⟨h, fun q hq => by omega⟩, fun h => h.1⟩⟩
  case round =>
    obtain ⟨j, b, rfl, hj, rfl, rfl, hbi⟩ := hrel
    by_cases hlt : j < name.length
    · have hxj := str_at (l := name) (j := j) hlt
      obtain ⟨x, hx⟩ : ∃ x, at_ name j = x := ⟨_, rfl⟩
      have hx256 : x < 256 := by rw [← hx]; exact UInt8.toNat_lt _
      rw [hx] at hxj
      have hjI : decide ((j : Int) < (name.length : Int)) = true := decide_eq_true (by omega)
      have HST : Hid ((∀ q, q < j + 1 → isIn (at_ name q) = true) ↔ ((∀ q, q < j → isIn (at_ name q) = true) ∧ isIn x = true)) := by
        rw [Hid, ← hx]
        refine ⟨fun h => ⟨fun q hq => h q (by omega), h j (by omega)⟩, fun h q hq => ?_⟩
        by_cases e : q = j
        · subst e; exact h.2
        · exact h.1 q (by omega)
      clear hx
      cases b with
      | false =>
        have hno : Hid (¬ ((name ≠ [] ∧ sizes ≠ [] ∧ (1 ≤ k ∧ k ≤ 2147483648)) ∧ ∀ q, q < j → isIn (at_ name q) = true)) := fun h => by have := hbi.out.2 h; cases this
        clear hbi
        go_wp2_with fail
        go_roundw
        case measure => simp [intOf]; omega
        case rel => exact ⟨j + 1, false, by go_num, hlt, rfl, by first | rfl | trivial, ⟨fun h => (by cases h), fun h => absurd ⟨h.1, (HST.out.1 h.2).1⟩ hno.out⟩⟩
      | true =>
        have hyes := Lib.hid (hbi.out.1 rfl)
        clear hbi
        by_cases h0 : 32 < x
        · have hI0 : decide (32 < x) = true := decide_eq_true h0
          by_cases h1 : x < 127
          · have hI1 : decide (x < 127) = true := decide_eq_true h1
            go_wp2_with fail
            go_roundw
            case measure => simp [intOf]; omega
            case rel => exact ⟨j + 1, true, by go_num, hlt, by first | rfl | exact congrArg Value.bool (decide_eq_true (by omega)), by first | rfl | trivial, ⟨fun _ => ⟨hyes.out.1, HST.out.2 ⟨hyes.out.2, by unfold isIn; simp; omega⟩⟩, fun _ => rfl⟩⟩
          · have hI1 : decide (x < 127) = false := decide_eq_false h1
            go_wp2_with fail
            go_roundw
            case measure => simp [intOf]; omega
            case rel => exact ⟨j + 1, false, by go_num, hlt, by first | rfl | exact congrArg Value.bool (decide_eq_false (by omega)), by first | rfl | trivial, ⟨fun h => (by cases h), fun h => by have := (HST.out.1 h.2).2; unfold isIn at this; simp at this; omega⟩⟩
        · have hI0 : decide (32 < x) = false := decide_eq_false h0
          go_wp2_with fail
          go_roundw
          case measure => simp [intOf]; omega
          case rel => exact ⟨j + 1, false, by go_num, hlt, rfl, by first | rfl | trivial, ⟨fun h => (by cases h), fun h => by have := (HST.out.1 h.2).2; unfold isIn at this; simp at this; omega⟩⟩
    · obtain rfl : j = name.length := by omega
      have hjI : decide ((name.length : Int) < (name.length : Int)) = false := decide_eq_false (by omega)
      have HF : Hid (b = true ↔ (IsWord name ∧ sizes ≠ [] ∧ (1 ≤ k ∧ k ≤ 2147483648))) := by
        unfold Hid IsWord
        rw [hbi.out]
        exact ⟨fun h => ⟨⟨h.1.1, h.2⟩, h.1.2⟩, fun h => ⟨⟨h.1.1, h.2⟩, h.1.2⟩⟩
      clear hbi
      repeat (first | (exact wr_size HG.out hgb HS.out HC.out hn hsl hnl HB.out HF.out) | go_step | dsimp only)
end Go.Proofs.YtafdijfbgkcnnaaDoor.wcp
/- WcspRight, from behind: may the file be at all. -/
namespace Go.Proofs.YtafdijfbgkcnnaaDoor.wcp
open Go Go.RowKit Go.ChangeShapes Go.WideShapes Go.ChangeAt Go.Maps Go.Proofs.YtafdijfbgkcnnaaDoor.words Go.Proofs.YtafdijfbgkcnnaaDoor.scn
set_option linter.unusedVariables false
theorem ok_no1 {name : List UInt8} {zs : List Int} {k : Int} (h : name = []) : Hid (false = true ↔ (name ≠ [] ∧ zs ≠ [] ∧ (1 ≤ k ∧ k ≤ 2147483648))) := ⟨fun h => (by cases h), fun h' => absurd h h'.1⟩
theorem ok_no2 {name : List UInt8} {zs : List Int} {k : Int} (h : ¬ 0 < zs.length) : Hid (false = true ↔ (name ≠ [] ∧ zs ≠ [] ∧ (1 ≤ k ∧ k ≤ 2147483648))) := ⟨fun h => (by cases h), fun h' => absurd (List.length_pos_iff.2 h'.2.1) h⟩
theorem ok_no3 {name : List UInt8} {zs : List Int} {k : Int} (h : k < 1) : Hid (false = true ↔ (name ≠ [] ∧ zs ≠ [] ∧ (1 ≤ k ∧ k ≤ 2147483648))) := ⟨fun h => (by cases h), fun h' => by omega⟩
theorem ok_yes2 {b : UInt8} {r : List UInt8} {zs : List Int} {k : Int} (h2 : 0 < zs.length) (h3 : 1 ≤ k) : Hid (decide (k ≤ 2147483648) = true ↔ (b :: r ≠ [] ∧ zs ≠ [] ∧ (1 ≤ k ∧ k ≤ 2147483648))) := by
  rw [Hid, decide_eq_true_eq]
  exact ⟨fun h => ⟨by simp, List.length_pos_iff.1 h2, h3, h⟩, fun h => h.2.2.2⟩
theorem ok_yes {name : List UInt8} {zs : List Int} {k : Int} (h1 : ¬ name = []) (h2 : 0 < zs.length) (h3 : 1 ≤ k) : Hid ((!name.isEmpty && decide (k ≤ 2147483648)) = true ↔ (name ≠ [] ∧ zs ≠ [] ∧ (1 ≤ k ∧ k ≤ 2147483648))) := by
  rw [Hid, show name.isEmpty = false by simpa using h1, Bool.not_false, Bool.true_and, decide_eq_true_eq]
  exact ⟨fun h => ⟨h1, List.length_pos_iff.1 h2, h3, h⟩, fun h => h.2.2.2⟩
set_option maxRecDepth 1000000 in
set_option maxHeartbeats 8000000 in
theorem wr_ok {w wt : World} {g : Nat} {name : List UInt8} {k other : Int} {nothing : Bool} {SA : Option Addr} {sc : Nat} {sizes scope : List Int} {CA : Option Addr} {cc : Nat} {v3 : Value}
    (hg : Blk wt g 51 #[strV name, .int .i64 k, .slice SA sizes.length sc, v3]) (hgb : w.heap.size ≤ g) (hs : wt.ownsRow 0 3 1 (.slice SA sizes.length sc) sizes.length (nums sizes)) (hc : wt.ownsRow 0 3 1 (.slice CA scope.length cc) scope.length (nums scope))
    (hn : scope.length ≤ 5) (hsl : sizes.length ≤ 1000000) (hnl : name.length ≤ 1000000) (hB : Below w.heap.size w wt)
    {k6 k7 k8 k9 k10 k11 k12 k14 k15 k16 k17 k18 k19 k20 k21 k22 k23 k24 k25 k26 k27 k28 k29 k30 k31 k32 k33 k34 k35 k36 k37 k38 k39 k40 k41 k42 k43 k44 k45 k46 k47 k48 k49 k50 k51 k52 k53 k54 k55 k56 k57 k58 k59 k60 k61 k62 k63 k64 k65 k66 k67 k68 k69 k70 k71 k72 k73 k74 k75 k76 k77 k78 k79 k80 k81 k82 k83 k84 k85 k86 k87 k88 k89 k90 k91 k92 k93 k94 k95 k96 k97 k98 k99 k100 k101 k102 k103 k104 k105 k106 k107 k108 k109 k110 k111 k112 k113 k114 k115 k116 k117 k118 k119 k120 k121 k122 k123 k124 k125 k126 k127 k128 k129 k130 k131 k132 k133 k134 k135 k136 k137 k138 k139 k140 k141 k142 k143 k144 k145 k146 k147 k148 k149 k150 k151 k152 k153 k154 k155 k156 k157 k158 k159 k160 k161 k162 k163 k164 k165 k166 k167 k168 k169 k170 k171 k172 k173 k174 k175 k176 k177 k178 k179 k180 k181 k182 k183 k184 k185 k186 k187 k188 k189 k190 k191 k192 k193 k194 k195 k196 k197 k198 k199 k200 k201 k202 k203 k204 k205 k206 k207 k208 k209 k210 k211 k212 k213 k214 k215 k216 k217 k218 k219 k220 k221 k222 k223 k224 k225 k226 k227 k228 k229 k230 k231 k232 k233 k234 k235 k236 k237 k238 k239 k240 k241 k242 k243 k244 k245 k246 k247 k248 k249 k250 k251 k252 k253 k254 k255 k256 k257 k258 k259 k260 k261 k262 k263 k264 k265 k266 k267 k268 k269 : Value} :
    Code.wp Tryd.prog (sfx 4 wrbody) (bodyPost Tryd.prog Tryd.f8 fun e w' => e = .returned (.bool true) ∧ Below w.heap.size w w') ⟨#[strV name, .int .i64 k, .slice SA sizes.length sc, .slice CA scope.length cc, .int .i64 other, .bool nothing, k6, k7, k8, k9, k10, k11, k12, .pointer (some ⟨g, 0, none⟩), k14, k15, k16, k17, k18, k19, k20, k21, k22, k23, k24, k25, k26, k27, k28, k29, k30, k31, k32, k33, k34, k35, k36, k37, k38, k39, k40, k41, k42, k43, k44, k45, k46, k47, k48, k49, k50, k51, k52, k53, k54, k55, k56, k57, k58, k59, k60, k61, k62, k63, k64, k65, k66, k67, k68, k69, k70, k71, k72, k73, k74, k75, k76, k77, k78, k79, k80, k81, k82, k83, k84, k85, k86, k87, k88, k89, k90, k91, k92, k93, k94, k95, k96, k97, k98, k99, k100, k101, k102, k103, k104, k105, k106, k107, k108, k109, k110, k111, k112, k113, k114, k115, k116, k117, k118, k119, k120, k121, k122, k123, k124, k125, k126, k127, k128, k129, k130, k131, k132, k133, k134, k135, k136, k137, k138, k139, k140, k141, k142, k143, k144, k145, k146, k147, k148, k149, k150, k151, k152, k153, k154, k155, k156, k157, k158, k159, k160, k161, k162, k163, k164, k165, k166, k167, k168, k169, k170, k171, k172, k173, k174, k175, k176, k177, k178, k179, k180, k181, k182, k183, k184, k185, k186, k187, k188, k189, k190, k191, k192, k193, k194, k195, k196, k197, k198, k199, k200, k201, k202, k203, k204, k205, k206, k207, k208, k209, k210, k211, k212, k213, k214, k215, k216, k217, k218, k219, k220, k221, k222, k223, k224, k225, k226, k227, k228, k229, k230, k231, k232, k233, k234, k235, k236, k237, k238, k239, k240, k241, k242, k243, k244, k245, k246, k247, k248, k249, k250, k251, k252, k253, k254, k255, k256, k257, k258, k259, k260, k261, k262, k263, k264, k265, k266, k267, k268, k269], []⟩ wt := by
  conv => arg 2; whnf
  have HG := Lib.hid hg
  have HS := Lib.hid hs
  have HC := Lib.hid hc
  have HB := Lib.hid hB
  clear hg hs hc hB
  dsimp only
  cases name with
  | nil =>
    go_upto_region 5 with fail
    go_cut [14] (fun bv wq => ∃ b : Bool, bv = .bool b ∧ wt = wq ∧ Hid (b = true ↔ (([] : List UInt8) ≠ [] ∧ sizes ≠ [] ∧ (1 ≤ k ∧ k ≤ 2147483648))))
    case first =>
      go_wp2_with fail
      all_goals
        go_meet
        case rel => first
          | exact ⟨false, rfl, rfl, ok_no1 (by first | assumption | rfl)⟩
          | exact ⟨_, rfl, rfl, ok_yes2 (by assumption) (by assumption)⟩
          | exact ⟨false, rfl, rfl, ok_no2 (by assumption)⟩
          | exact ⟨false, rfl, rfl, ok_no3 (by assumption)⟩
          | exact ⟨_, rfl, rfl, ok_yes (by assumption) (by assumption) (by assumption)⟩
    case rest =>
      obtain ⟨b, rfl, rfl, HOK⟩ := hcut
      repeat (first | (exact wr_name HG.out hgb HS.out HC.out hn hsl hnl HB.out HOK.out) | go_step | dsimp only)
  | cons b r =>
    go_upto_region 5 with fail
    go_cut [14] (fun bv wq => ∃ b0 : Bool, bv = .bool b0 ∧ wt = wq ∧ Hid (b0 = true ↔ ((b :: r) ≠ [] ∧ sizes ≠ [] ∧ (1 ≤ k ∧ k ≤ 2147483648))))
    case first =>
      go_wp2_with fail
      all_goals
        go_meet
        case rel => first
          | exact ⟨false, rfl, rfl, ok_no1 (by first | assumption | rfl)⟩
          | exact ⟨_, rfl, rfl, ok_yes2 (by assumption) (by assumption)⟩
          | exact ⟨false, rfl, rfl, ok_no2 (by assumption)⟩
          | exact ⟨false, rfl, rfl, ok_no3 (by assumption)⟩
          | exact ⟨_, rfl, rfl, ok_yes (by assumption) (by assumption) (by assumption)⟩
    case rest =>
      obtain ⟨b0, rfl, rfl, HOK⟩ := hcut
      repeat (first | (exact wr_name HG.out hgb HS.out HC.out hn hsl hnl HB.out HOK.out) | go_step | dsimp only)
end Go.Proofs.YtafdijfbgkcnnaaDoor.wcp
