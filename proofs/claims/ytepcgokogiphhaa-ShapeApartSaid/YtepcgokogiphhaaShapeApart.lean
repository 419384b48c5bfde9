/- For every input ShapeApart returns true; its arguments read as before. No condition. -/
import Derived.Test.YtepcgokogiphhaaRows
import Derived.WalkKit
import Derived.ProofKit
import Derived.OpenShut
import Derived.Test.YtepcgokogiphhaaShapeEq
import Derived.ShutString
import Derived.ChangeOld
import Derived.Below
namespace Go.Proofs.Ytepcgokogiphhaa.shapeApart
open Go.Proofs.Ytepcgokogiphhaa.shp Go.Proofs.Ytepcgokogiphhaa.words
open Go.ChangeShapes Go.WideShapes Go.ChangeAt Go.RowKit
open Go.ChangeMaps (open_string shut_string)
set_option linter.unusedVariables false

theorem own : ownKnob Try.prog.godebug = none := by kernel_rfl
theorem laidOut : laidOutB Try.prog = true := by kernel_rfl

def IsRow (k : IntKind) (w : World) (a : Option Addr) (len cap : Nat) (zs : List Int) : Prop :=
  (a = none ∧ len = 0 ∧ cap = 0 ∧ zs = []) ∨
  ∃ x, a = some x ∧ len ≤ cap ∧ cap ≤ maxLen ∧ zs.length = cap ∧ (∀ i, i < zs.length → w.cell? (x.add i) = some (.int k (zs.getD i 0))) ∧ ∀ n ∈ zs, (Lit.int k n).wf = true

theorem row_reads {k : IntKind} {w : World} {a : Option Addr} {len cap : Nat} {zs : List Int} (h : IsRow k w a len cap zs) :
    Reads w w.heap.size 1 a len ((zs.take len).map (Value.int k)) ∧ len ≤ 9223372036854775807 ∧ len ≤ cap ∧ ∀ x ∈ zs.take len, (Lit.int k x).wf = true := by
  rcases h with ⟨rfl, rfl, rfl, rfl⟩ | ⟨x, rfl, hl, hm, hz, hcell, hwz⟩
  · exact ⟨by simpa using (Reads.none_ (w := w) (B := w.heap.size) (size := 1) (A := none)), by omega, by omega, by simp⟩
  · refine ⟨⟨by simp; omega, fun h0 => ⟨x, rfl, ?_, fun j u hu => ?_⟩⟩, by unfold maxLen at hm; omega, hl, fun x hx => hwz x (List.mem_of_mem_take hx)⟩
    · have := World.block_lt_of_cell? w _ (hcell 0 (by omega))
      rw [block_of_add] at this; exact this
    · rw [List.getElem?_map, List.getElem?_take] at hu
      split at hu
      · cases hy : zs[j]? with
        | none => rw [hy] at hu; simp at hu
        | some y =>
          rw [hy] at hu
          simp at hu
          subst hu
          have hl := (List.getElem?_eq_some_iff.1 hy).1
          rw [hcell j hl]; simp [hy]
      · simp at hu
theorem own_lt {w : World} {base : Nat} {e : TypeId} {n c : Nat} {A : Option Addr} {xs : List Value} (h : w.ownsRow base e 1 (.slice A n c) n xs) : ∀ g, A = some ⟨g, 0, none⟩ → base ≤ g ∧ g < w.heap.size := by
  intro g hg; subst hg; exact h.lt g rfl
theorem own_set {w : World} {base : Nat} {e : TypeId} {n c g j : Nat} {ys : List Int} (h : w.ownsRow base e 1 (.slice (some ⟨g, 0, none⟩) n c) n (nums ys)) (v : Int) :
    ∃ zs, (w.setCell ⟨g, j, none⟩ (.int .i64 v)).ownsRow base e 1 (.slice (some ⟨g, 0, none⟩) n c) n (nums zs) :=
  ⟨ys.set j v, by have := (h.stored j (.int .i64 v)).1; unfold nums at this ⊢; rwa [List.map_set]⟩
set_option maxRecDepth 100000 in
set_option maxHeartbeats 8000000 in
theorem core (A C : Option Addr) (n0 cap m0 c : Nat) (l l2 : List Int) (w : World) (hn : n0 ≤ 9223372036854775807) (hm : m0 ≤ 9223372036854775807)
    (hr : Reads w w.heap.size 1 A n0 (bytes8 l)) (h8 : ∀ x ∈ l, 0 ≤ x ∧ x < 256) (hr2 : Reads w w.heap.size 1 C m0 (bytes8 l2)) (h82 : ∀ x ∈ l2, 0 ≤ x ∧ x < 256) :
    Calls Try.prog 5 #[.slice A n0 cap, .slice C m0 c] w fun e w' => e = .returned (.bool true) ∧ Below w.heap.size w w' := by
  obtain ⟨hsz, hl3, h14⟩ := small_szs l
  obtain ⟨hsz2, hl32, h142⟩ := small_szs l2
  obtain ⟨xs, hxs⟩ : ∃ xs, xs = smallI l := ⟨_, rfl⟩
  obtain ⟨ys, hys⟩ : ∃ ys, ys = smallI l2 := ⟨_, rfl⟩
  have hsm := fun wx hx => small_any A n0 cap l wx hn hx h8
  have hsm2 := fun wx hx => small_any C m0 c l2 wx hm hx h82
  rw [← hxs] at hsm hsz hl3 h14
  rw [← hys] at hsm2 hsz2 hl32 h142
  have hpr := (szs_small hl3 h14).2
  have hpr2 := (szs_small hl32 h142).2
  clear hxs hys
  obtain ⟨n, hn'⟩ : ∃ n, xs.length = n := ⟨_, rfl⟩
  obtain ⟨m, hm'⟩ : ∃ m, ys.length = m := ⟨_, rfl⟩
  have HN := Lib.hid hn'
  have HM := Lib.hid hm'
  rw [hn'] at hl3
  rw [hm'] at hl32
  clear hn' hm'
  go_enter Try.func5, Try.ntmps5
  go_wp2_with fail
  refine (awake_any w).mono ?_
  rintro e w1 ⟨rfl, hb1⟩
  go_wp2_with fail
  refine (hsm w1 (hr.lift hb1)).mono ?_
  rintro e w2 ⟨Aa, ca, rfl, hoa2, hb2⟩
  rw [HN.out] at hoa2 ⊢
  have hB2 := bto hb1 hb2
  go_wp2_with fail
  refine (hsm2 w2 (hr2.lift hB2)).mono ?_
  rintro e w3 ⟨Ab, cb, rfl, hob3, hb3⟩
  rw [HM.out] at hob3 ⊢
  have hB3 := bto hB2 hb3
  have hoa3 := own_base (own_under hoa2 hb3) hb1.size
  have hga := own_lt hoa2
  have hga' : ∀ g, Aa = some ⟨g, 0, none⟩ → w.heap.size ≤ g ∧ g < w3.heap.size := fun g hg => ⟨Nat.le_trans hb1.size (hga g hg).1, Nat.lt_of_lt_of_le (hga g hg).2 hb3.size⟩
  have HGA := Lib.hid hga'
  clear hga hga' hoa2 hb1 hb2 hb3 hB2 hsm2 hr2
  go_wp2_with fail
  refine (new_yes Aa n ca xs w3 (by omega) (Reads.of_own hoa3) hsz hpr).mono ?_
  rintro e w4 ⟨As, cs, rfl, hos4, hcs, hb4⟩
  have hB4 := bto hB3 hb4
  have hoa4 := own_under hoa3 hb4
  have hrb4 := (Reads.of_own hob3).lift hb4
  have hbs : Blk (w4.alloc (.cells #[.slice As n cs] 28)) w4.heap.size 28 #[.slice As n cs] := Blk.new _ _ _
  have hsize4 := hb4.size
  have hw5 := bone w4 (.cells #[.slice As n cs] 28)
  have hB5 := bto hB4 hw5
  have hoa5 := own_under hoa4 hw5
  have hos5 := own_under hos4 hw5
  have hrb5 := hrb4.lift hw5
  have hz5 : (w4.alloc (.cells #[.slice As n cs] 28)).heap.size = w4.heap.size + 1 := by simp
  clear hoa3 hob3 hb4 hoa4 hos4 hrb4 hB3 hB4 hw5
  go_wp2_with fail
  refine (new_yes Ab m cb ys _ (by omega) hrb5 hsz2 hpr2).mono ?_
  rintro e w6 ⟨At, ct, rfl, hot6, hct, hb6⟩
  have hB6 := bto hB5 hb6
  have hoa6 := own_under hoa5 hb6
  have hos6 := own_under hos5 hb6
  have hrb6 := hrb5.lift hb6
  have hbs6 := Blk.under hbs hb6
  have hsize6 := hb6.size
  rw [hz5] at hsize6
  have hot6' := own_base hot6 (show w3.heap.size ≤ _ by rw [hz5]; omega)
  have hbt : Blk (w6.alloc (.cells #[.slice At m ct] 28)) w6.heap.size 28 #[.slice At m ct] := Blk.new _ _ _
  have hw7 := bone w6 (.cells #[.slice At m ct] 28)
  have hB7 := bto hB6 hw7
  have hoa7 := own_under hoa6 hw7
  have hos7 := own_under hos6 hw7
  have hot7 := own_under hot6' hw7
  have hrb7 := hrb6.lift hw7
  have hbs7 := Blk.under hbs6 hw7
  clear hoa5 hos5 hrb5 hb6 hoa6 hos6 hrb6 hbs6 hot6 hot6' hw7 hB5 hB6 hbs hz5
  go_wp2_with fail
  refine (equal_any Aa Ab n m ca cb xs ys _ (by omega) (by omega) (Reads.of_own hoa7) hrb7).mono ?_
  rintro e w8 ⟨rfl, hb8⟩
  have hB8 := bto hB7 hb8
  have hoa8 := own_under hoa7 hb8
  have hos8 := own_under hos7 hb8
  have hot8 := own_under hot7 hb8
  have hbs8 := Blk.under hbs7 hb8
  have hbt8 := Blk.under hbt hb8
  have hgs := own_lt hos8
  have hgt := own_lt hot8
  clear hB7 hoa7 hos7 hot7 hrb7 hbs7 hbt hb8
  obtain ⟨b0, hb0⟩ : ∃ b0, eqB xs ys = b0 := ⟨_, rfl⟩
  rw [hb0]
  have HB0 := Lib.hid hb0
  clear hb0
  go_wp2_with fail
  go_loopw [41] (fun iv wr => ∃ (j : Nat) (zs : List Int), j ≤ n ∧ iv = .int .i64 j ∧ wr.ownsRow w.heap.size 3 1 (.slice Aa n ca) n (nums zs) ∧ wr.ownsRow w3.heap.size 3 1 (.slice As n cs) n (nums xs) ∧ wr.ownsRow w3.heap.size 3 1 (.slice At m ct) m (nums ys) ∧
      Blk wr w4.heap.size 28 #[.slice As n cs] ∧ Blk wr w6.heap.size 28 #[.slice At m ct] ∧ Below w.heap.size w wr) (fun iv _ => n - (intOf iv).toNat)
  case atStart => exact ⟨0, xs, by omega, rfl, hoa8, hos8, hot8, hbs8, hbt8, hB8⟩
  case round =>
    obtain ⟨j, zs, hj, rfl, hoa, hos, hot, hbs, hbt, hbr⟩ := hrel
    clear hoa8 hos8 hot8 hbs8 hbt8 hB8
    by_cases hlt : j < n
    · obtain ⟨g, rfl, _, _⟩ := own_some hoa (by omega)
      obtain ⟨g1, g2⟩ := HGA.out g rfl
      have hzl := nums_own_len hoa
      have hcell : wr.cell? ⟨g, j, none⟩ = some (.int .i64 (zs[j]'(by omega))) := by
        rw [hoa.cellAt j (by omega)]; unfold nums; rw [List.getElem?_map, List.getElem?_eq_getElem (by omega)]; rfl
      have hfz := hoa.frozenAt j
      have HS := Lib.hid (own_set (j := j) hoa 9)
      go_wp2
      go_roundw
      case rel =>
        obtain ⟨zs', hz'⟩ := HS.out
        exact ⟨j + 1, zs', by omega, by go_num, hz', ownsRow_setCell_below hos g2 _, ownsRow_setCell_below hot g2 _, hbs.far (p := ⟨g, j, none⟩) (by show w4.heap.size ≠ g; omega) _, hbt.far (p := ⟨g, j, none⟩) (by show w6.heap.size ≠ g; omega) _, hbr.setCell g1 _⟩
      case measure => simp [intOf]; omega
    · obtain ⟨hcs1, hfs1⟩ := Blk.one hbs
      go_wp2_with fail
      have hlbs := hbs.lt
      have hlbt := hbt.lt
      have hrs := Reads.of_own hos
      have hrt := Reads.of_own hot
      refine (sizes_any As n cs xs wr (by omega) hrs).mono ?_
      rintro e w9 ⟨Ad, cd, rfl, hod, hb9⟩
      rw [HN.out] at hod ⊢
      have hrs9 := hrs.below hb9
      have hrt9 := hrt.below hb9
      have hbs9 := Blk.under hbs hb9
      have hbt9 := Blk.under hbt hb9
      have hB9 := bto hbr hb9
      have hwr := hbr.size
      have hBs := hb9.size
      clear hoa hos hot hbs hbt hrs hrt hb9 hbr hcs1 hfs1 hgs hgt
      obtain ⟨B, hBe⟩ : ∃ B, B = wr.heap.size := ⟨_, rfl⟩
      rw [← hBe] at hlbs hlbt hod hrs9 hrt9 hwr hBs
      clear hBe
      go_wp2_with fail
      go_loopw [52] (fun iv wq => ∃ (j : Nat) (zs : List Int), j ≤ n ∧ iv = .int .i64 j ∧ wq.ownsRow B 3 1 (.slice Ad n cd) n (nums zs) ∧ Reads wq B 1 As n (nums xs) ∧ Reads wq B 1 At m (nums ys) ∧
          Blk wq w4.heap.size 28 #[.slice As n cs] ∧ Blk wq w6.heap.size 28 #[.slice At m ct] ∧ Below w.heap.size w wq ∧ B ≤ wq.heap.size) (fun iv _ => n - (intOf iv).toNat)
      case atStart =>
        exact ⟨0, xs, by omega, rfl, hod, hrs9, hrt9, hbs9, hbt9, hB9, hBs⟩
      case round =>
        obtain ⟨j', zs', hj', rfl, hod', hrs', hrt', hbs', hbt', hbr', hBs'⟩ := hrel
        clear hod hrs9 hrt9 hbs9 hbt9 hB9
        by_cases hlt' : j' < n
        · obtain ⟨g, rfl, g1, g2⟩ := own_some hod' (by omega)
          have hzl := nums_own_len hod'
          have hcell : wr.cell? ⟨g, j', none⟩ = some (.int .i64 (zs'[j']'(by omega))) := by
            rw [hod'.cellAt j' (by omega)]; unfold nums; rw [List.getElem?_map, List.getElem?_eq_getElem (by omega)]; rfl
          have hfz := hod'.frozenAt j'
          have HS := Lib.hid (own_set (j := j') hod' 9)
          go_wp2
          go_roundw
          case rel =>
            obtain ⟨zs'', hz'⟩ := HS.out
            exact ⟨j' + 1, zs'', by omega, by go_num, hz', hrs'.setCell (p := ⟨g, j', none⟩) g1 _, hrt'.setCell (p := ⟨g, j', none⟩) g1 _, hbs'.far (p := ⟨g, j', none⟩) (by show w4.heap.size ≠ g; omega) _, hbt'.far (p := ⟨g, j', none⟩) (by show w6.heap.size ≠ g; omega) _, hbr'.setCell (p := ⟨g, j', none⟩) (by show w.heap.size ≤ g; omega) _, by simpa [World.setCell] using hBs'⟩
          case measure => simp [intOf]; omega
        · have hrs2 := hrs'.more hBs'
          have hrt2 := hrt'.more hBs'
          clear hod' hrs' hrt'
          have hB0 := hbr'
          go_wp2_with fail
          refine (hsm _ (hr.lift hbr')).mono ?_
          rintro e wa ⟨Ae, ce, rfl, hoe, hba⟩
          rw [HN.out] at hoe ⊢
          have hrsa := hrs2.lift hba
          have hrta := hrt2.lift hba
          have hbsa := Blk.under hbs' hba
          have hbta := Blk.under hbt' hba
          have hBa := bto hbr' hba
          clear hrs2 hrt2 hbs' hbt' hbr' hB0 hba
          go_wp2_with fail
          refine (new_yes Ae n ce xs wa (by omega) (Reads.of_own hoe) hsz hpr).mono ?_
          rintro e wb ⟨Au, cu, rfl, hou, hcu, hbb⟩
          have hrub := Reads.of_own hou
          have hrsb := hrsa.lift hbb
          have hrtb := hrta.lift hbb
          have hbsb := Blk.under hbsa hbb
          have hbtb := Blk.under hbta hbb
          have hBb := bto hBa hbb
          have hsb := hBb.size
          clear hoe hou hrsa hrta hbsa hbta hBa hbb
          have hbu : Blk (wb.alloc (.cells #[.slice Au n cu] 28)) wb.heap.size 28 #[.slice Au n cu] := Blk.new _ _ _
          have hw1 := bone wb (.cells #[.slice Au n cu] 28)
          have hw2 := bone (wb.alloc (.cells #[.slice Au n cu] 28)) (.cells #[.slice none 0 0] 28)
          have hbz : Blk ((wb.alloc (.cells #[.slice Au n cu] 28)).alloc (.cells #[.slice none 0 0] 28)) (wb.heap.size + 1) 28 #[.slice none 0 0] := by
            have := Blk.new (wb.alloc (.cells #[.slice Au n cu] 28)) 28 #[.slice none 0 0]
            simpa using this
          have hrsc := (hrsb.lift hw1).lift hw2
          have hrtc := (hrtb.lift hw1).lift hw2
          have hruc := (hrub.lift hw1).lift hw2
          have hbsc := Blk.under (Blk.under hbsb hw1) hw2
          have hbtc := Blk.under (Blk.under hbtb hw1) hw2
          have hbuc := Blk.under hbu hw2
          have hBc := bto (bto hBb hw1) hw2
          clear hrsb hrtb hrub hbsb hbtb hbu hw1 hw2 hBb
          have hsz0 : Szs ([] : List Int) := ⟨by simp, by simp⟩
          go_wp2_with fail
          refine (tuple_any none 0 0 [] 0 _ (by omega) Reads.none_ hsz0).mono ?_
          rintro e wd ⟨hbd, hd⟩
          obtain ⟨g, rfl⟩ : ∃ g, e = .returned (.tuple #[.slice (some ⟨g, 0, none⟩) 0 0, .int .i64 0]) := by
            rcases hd with ⟨h, _⟩ | ⟨_, g, h, _⟩
            · exact absurd ⟨by omega, by decide⟩ h
            · exact ⟨g, h⟩
          have hrsd := hrsc.lift hbd
          have hrtd := hrtc.lift hbd
          have hrud := hruc.lift hbd
          have hbsd := Blk.under hbsc hbd
          have hbtd := Blk.under hbtc hbd
          have hbud := Blk.under hbuc hbd
          have hbzd := Blk.under hbz hbd
          have hBd := bto hBc hbd
          obtain ⟨hcsd, _⟩ := Blk.one hbsd
          obtain ⟨hctd, _⟩ := Blk.one hbtd
          clear hd hrsc hrtc hruc hbsc hbtc hbuc hbz hbd hBc
          go_wp2_with fail
          refine (same_any As At n m cs ct xs ys wd (by omega) (by omega) hrsd hrtd).mono ?_
          rintro e we ⟨rfl, hbe⟩
          rw [HB0.out]
          obtain ⟨hcse, _⟩ := Blk.at_ hbsd hbe
          obtain ⟨hcue, _⟩ := Blk.at_ hbud hbe
          have hsa := same_any As Au n n cs cu xs xs we (by omega) (by omega) (hrsd.lift hbe) (hrud.lift hbe)
          rw [show eqB xs xs = true from decide_eq_true rfl] at hsa
          go_wp2_with fail
          refine hsa.mono ?_
          rintro e wf ⟨rfl, hbf⟩
          have hbzf := Blk.under (Blk.under hbzd hbe) hbf
          obtain ⟨hczf, _⟩ := Blk.one hbzf
          clear hsa hcse hcue hcsd hctd
          go_wp2_with fail
          refine (arity_any none 0 0 wf (by omega)).mono ?_
          rintro e wg ⟨rfl, hbg⟩
          obtain ⟨hczg, _⟩ := Blk.at_ hbzf hbg
          have hcn := count_any none 0 0 [] wg Reads.none_ hsz0
          rw [show prodI [] = 1 from rfl] at hcn
          go_wp2_with fail
          refine hcn.mono ?_
          rintro e wh ⟨rfl, hbh⟩
          go_wp2
          go_ret
          exact ⟨rfl, bto (bto (bto (bto hBd hbe) hbf) hbg) hbh⟩
theorem walk (a0 : Option Addr) (len0 cap0 : Nat) (z0 : List Int) (a1 : Option Addr) (len1 cap1 : Nat) (z1 : List Int) (w : World) (w0 : IsRow .u8 w a0 len0 cap0 z0) (w1 : IsRow .u8 w a1 len1 cap1 z1) :
    Calls Try.prog 5 #[.slice a0 len0 cap0, .slice a1 len1 cap1] w fun e w' => e = .returned (.bool true) ∧ Below w.heap.size w w' := by
  obtain ⟨hr, hn, _, h8⟩ := row_reads w0
  obtain ⟨hr2, hm, _, h82⟩ := row_reads w1
  exact core a0 a1 len0 cap0 len1 cap1 (z0.take len0) (z1.take len1) w hn hm hr (fun x hx => by have := bounds_u8 (h8 x hx); omega) hr2 (fun x hx => by have := bounds_u8 (h82 x hx); omega)

set_option maxRecDepth 100000 in
theorem lifted (os : Os) (started : os.Started) (H : Type) (enc : TypeId × Value → H) :
    ReturnsInHanded {} Try.checked os 5 .any (Rows.shapeApartSpec.pre6 enc Try.prog Try.f5 Rows.shapeApartRow.domain false) (Rows.shapeApartSpec.post enc Try.prog Try.f5 false true false false) := by
  refine returnsInHanded_of_change (C := Try.checked) own started (by kernel_rfl) Try.func5
    (ChangeSpec.witness6 (enc := enc) (C := Try.checked) false ⟨#[], #[.slice none 0 0, .slice none 0 0], []⟩ 8 (by kernel_rfl) (by kernel_rfl) (by kernel_rfl) (by kernel_rfl)) ?_
  intro W base args ds gs before hval0 hW hcnd _
  have hval : ∀ (j : Nat) t v, Try.f5.params[j]? = some t → args[j]? = some v → Value.okWide Try.prog W .any base t v := hval0
  have hW' := hW
  obtain ⟨p, q, hA0, hV, rfl, hfz, hnd⟩ := hW
  have hA : DataW.TrodAll enc Try.prog W 0 (fun _ => true) true Try.f5.params.toList args.toList ds p := hA0
  rw [Try.params5] at hA hval
  obtain ⟨v0, vs0, d0, ds0, p0, q0, hargs, rfl, rfl, h0, r0⟩ := trodAll_cons hA
  obtain ⟨v1, vs1, d1, ds1, p1, q1, rfl, rfl, rfl, h1, r1⟩ := trodAll_cons r0
  obtain ⟨rfl, rfl, rfl⟩ := trodAll_nil r1
  obtain rfl : args = #[v0, v1] := by cases args; simp_all
  obtain ⟨rfl, rfl⟩ := trodVars_none hV
  obtain ⟨a0, len0, cap0, rfl⟩ := okWide_slice Try.underlying22 (hval 0 22 v0 rfl rfl)
  have k0 := h0
  have lt0 : ∀ x ∈ p0, x.block < W.heap.size := by obtain ⟨m, hm⟩ := k0; exact DataW.trod_lt m _ _ _ hm
  obtain ⟨z0, w0⟩ : ∃ zs, IsRow .u8 W a0 len0 cap0 zs := by
    obtain ⟨fuel, hf⟩ := h0
    rcases open_ints Try.underlying22 Try.underlying5 (by kernel_rfl) hf with ⟨hcs, _⟩ | ⟨x, l, c, zs, hcs, _, hl, hm, hz, _, hcell, hwz⟩
    · simp [Value.cells] at hcs
      obtain ⟨rfl, rfl, rfl⟩ := hcs
      exact ⟨[], .inl ⟨rfl, rfl, rfl, rfl⟩⟩
    · simp [Value.cells] at hcs
      obtain ⟨rfl, rfl, rfl⟩ := hcs
      exact ⟨zs, .inr ⟨_, rfl, hl, hm, by simpa using hz, hcell, hwz⟩⟩
  obtain ⟨a1, len1, cap1, rfl⟩ := okWide_slice Try.underlying22 (hval 1 22 v1 rfl rfl)
  have k1 := h1
  have lt1 : ∀ x ∈ p1, x.block < W.heap.size := by obtain ⟨m, hm⟩ := k1; exact DataW.trod_lt m _ _ _ hm
  obtain ⟨z1, w1⟩ : ∃ zs, IsRow .u8 W a1 len1 cap1 zs := by
    obtain ⟨fuel, hf⟩ := h1
    rcases open_ints Try.underlying22 Try.underlying5 (by kernel_rfl) hf with ⟨hcs, _⟩ | ⟨x, l, c, zs, hcs, _, hl, hm, hz, _, hcell, hwz⟩
    · simp [Value.cells] at hcs
      obtain ⟨rfl, rfl, rfl⟩ := hcs
      exact ⟨[], .inl ⟨rfl, rfl, rfl, rfl⟩⟩
    · simp [Value.cells] at hcs
      obtain ⟨rfl, rfl, rfl⟩ := hcs
      exact ⟨zs, .inr ⟨_, rfl, hl, hm, by simpa using hz, hcell, hwz⟩⟩
  clear hA0 hval0
  refine (walk a0 len0 cap0 z0 a1 len1 cap1 z1 W w0 w1).mono fun e W' ⟨he, bel⟩ => ?_
  subst he
  exact ⟨_, rfl, _, _, _, [], _, [], hW', trodAll_mk1 (shut_bool Try.underlying4 _), (trodAll_cons_mk (Below.trod laidOut (by kernel_rfl) (of_decide_eq_true (by kernel_rfl)) k0 bel lt0) (trodAll_cons_mk (Below.trod laidOut (by kernel_rfl) (of_decide_eq_true (by kernel_rfl)) k1 bel lt1) trodAll_mk0)), rfl, bel.frame _, fun h => by cases h⟩

theorem over : Rows.shapeApartRow.holds Try.pinned (OpenSpec.ofChange Rows.shapeApartSpec) :=
  OpenClaim.holds_of_wide 5 Try.f5 rfl rfl rfl rfl rfl rfl rfl ⟨rfl, rfl, rfl, rfl, rfl⟩ rfl rfl rfl rfl rfl (by kernel_rfl) Try.func5 (by kernel_rfl)
    (of_decide_eq_true (by kernel_rfl)) (by unfold Func.isWrapper; first | (rw [if_pos (by decide +kernel)]; kernel_rfl) | (rw [if_neg (by decide +kernel)]; exact ⟨rfl, rfl⟩))
    (fun os started H enc _ => lifted os started H enc)

theorem proved : Rows.ShapeApartSaid := over
end Go.Proofs.Ytepcgokogiphhaa.shapeApart
