/- What was told is right, where nothing was too large: plain. -/
import Derived.Test.YtafdijfbgkcnnaaDoorWBody
import Derived.Test.YtafdijfbgkcnnaaDoorFileFun
namespace Go.Proofs.YtafdijfbgkcnnaaDoor.wcp
open Go Go.Proofs.YtafdijfbgkcnnaaDoor.scn
set_option linter.unusedVariables false
variable {en ee : Int}
theorem ptup_ins : ∀ (ks : List Int) {s s' : Ps} {t : List Int}, ptup en ee ks [] s = .ok t s' → InS ks t := by
  intro ks
  induction ks with
  | nil => intro s s' t h; injection h with h1 h2; subst h1; exact ⟨rfl, fun i v k h => by simp at h⟩
  | cons k ks ih =>
    intro s s' t h
    unfold ptup at h
    cases hp : pnum en ee 0 (k - 1) s with
    | bad e x => rw [hp] at h; cases h
    | ok v s1 =>
      rw [hp, Res.bind_ok, ptup_acc] at h
      obtain ⟨p1, p2, _⟩ := pnum_ok hp
      cases hq : ptup en ee ks [] s1 with
      | bad e x => rw [hq] at h; cases h
      | ok t2 s2 =>
        rw [hq, Res.bind_ok] at h
        injection h with h1 h2
        subst h1
        obtain ⟨q1, q2⟩ := ih hq
        refine ⟨by simp [q1], fun i u m hu hm => ?_⟩
        cases i with
        | zero => simp at hu hm; subst hu hm; omega
        | succ i => exact q2 i u m (by simpa using hu) (by simpa using hm)
/-- lines as they should be -/
def LnOk (sizes : List Int) (ls : List (List Int × Int)) : Prop := ∀ l ∈ ls, InS sizes l.1 ∧ 0 ≤ l.2
theorem plines_lnok {sizes : List Int} : ∀ (k : Nat) {s s' : Ps} {out : List (List Int × Int)}, plines en ee sizes k [] s = .ok out s' → LnOk sizes out := by
  intro k
  induction k with
  | zero => intro s s' out h; injection h with h1 h2; subst h1; intro l hl; cases hl
  | succ k ih =>
    intro s s' out h
    rw [plines_snoc] at h
    cases hp : plines en ee sizes k [] s with
    | bad e x => rw [hp] at h; cases h
    | ok o s1 =>
      rw [hp, Res.bind_ok] at h
      unfold pline at h
      cases h1 : ptup en ee sizes [] s1 with
      | bad e x => rw [h1] at h; cases h
      | ok t s2 =>
        rw [h1, Res.bind_ok] at h
        cases h2 : pnum en ee 0 far s2 with
        | bad e x => rw [h2] at h; cases h
        | ok c s3 =>
          rw [h2, Res.bind_ok] at h
          split at h
          · cases h
          · injection h with e1 e2
            subst e1
            intro l hl
            rcases List.mem_append.1 hl with hl | hl
            · exact ih hp l hl
            · rw [List.mem_singleton.1 hl]; exact ⟨ptup_ins _ h1, (pnum_ok h2).1⟩
theorem ptup_big : ∀ (ks : List Int) {s s' : Ps} {t : List Int}, ptup en ee ks [] s = .ok t s' → s'.big = s.big := by
  intro ks
  induction ks with
  | nil => intro s s' t h; injection h with h1 h2; subst h2; rfl
  | cons k ks ih =>
    intro s s' t h
    unfold ptup at h
    cases hp : pnum en ee 0 (k - 1) s with
    | bad e x => rw [hp] at h; cases h
    | ok v s1 =>
      rw [hp, Res.bind_ok, ptup_acc] at h
      cases hq : ptup en ee ks [] s1 with
      | bad e x => rw [hq] at h; cases h
      | ok t2 s2 =>
        rw [hq, Res.bind_ok] at h
        injection h with h1 h2
        subst h2
        rw [ih hq, (pnum_ok hp).2.2.2.2.1]
theorem plines_big {sizes : List Int} : ∀ (k : Nat) {s s' : Ps} {out : List (List Int × Int)}, plines en ee sizes k [] s = .ok out s' → s'.big = none → s.big = none := by
  intro k
  induction k with
  | zero => intro s s' out h hb; injection h with h1 h2; subst h2; exact hb
  | succ k ih =>
    intro s s' out h hb
    rw [plines_snoc] at h
    cases hp : plines en ee sizes k [] s with
    | bad e x => rw [hp] at h; cases h
    | ok o s1 =>
      rw [hp, Res.bind_ok] at h
      unfold pline at h
      cases h1 : ptup en ee sizes [] s1 with
      | bad e x => rw [h1] at h; cases h
      | ok t s2 =>
        rw [h1, Res.bind_ok] at h
        cases h2 : pnum en ee 0 far s2 with
        | bad e x => rw [h2] at h; cases h
        | ok c s3 =>
          rw [h2, Res.bind_ok] at h
          split at h
          · cases h
          · injection h with e1 e2
            subst e2
            exact ih hp (by rw [← ptup_big _ h1, ← (pnum_ok h2).2.2.2.2.1]; exact hb)
def ShOk (N : Nat) (s : Ps) : Prop := ∀ p ∈ s.sh, LnOk p.1 p.2 ∧ p.2.length ≤ N
theorem pall_big {sizes : List Int} {s s' : Ps} {out : List (List Int × Int)} {N : Nat} (h : pall en ee sizes s = .ok out s') (hs : ShOk N s) (hl : s.l.length ≤ N) : LnOk sizes out ∧ out.length ≤ N ∧ (s'.big = none → s.big = none) := by
  unfold pall at h
  cases hp : pnum en ee (-far) far s with
  | bad e x => rw [hp] at h; cases h
  | ok n s1 =>
    rw [hp, Res.bind_ok] at h
    obtain ⟨p1, p2, p3, p4, p5, p6⟩ := pnum_ok hp
    split at h
    · split at h
      · cases h
      · rename_i x hx
        split at h
        · rename_i he
          injection h with h1 h2
          subst h1 h2
          rw [p3] at hx
          obtain ⟨a, b⟩ := hs x (List.mem_of_getElem? hx)
          rw [he] at a
          exact ⟨a, b, fun hb => by rw [← p5]; exact hb⟩
        · cases h
    · obtain ⟨q1, q2, q3, q4⟩ := plines_ok _ h
      obtain ⟨l1, l2, l3⟩ := plarge_l (decide (min (s1.told + n.1) far > 16384)) n.2 { s1 with told := min (s1.told + n.1) far }
      rw [l1] at q4
      dsimp only at q4
      refine ⟨plines_lnok _ h, by omega, fun hb => ?_⟩
      have := plines_big _ h hb
      obtain ⟨_, g⟩ := plarge_none this
      dsimp only at g
      rw [← p5]; exact g
theorem pall_sh {sizes : List Int} {s s' : Ps} {out : List (List Int × Int)} (h : pall en ee sizes s = .ok out s') : s'.sh = s.sh ∧ s'.l.length ≤ s.l.length := by
  unfold pall at h
  cases hp : pnum en ee (-far) far s with
  | bad e x => rw [hp] at h; cases h
  | ok n s1 =>
    rw [hp, Res.bind_ok] at h
    obtain ⟨p1, p2, p3, p4, p5, p6⟩ := pnum_ok hp
    split at h
    · split at h
      · cases h
      · split at h
        · injection h with h1 h2
          subst h2
          exact ⟨p3, by omega⟩
        · cases h
    · obtain ⟨q1, q2, q3, q4⟩ := plines_ok _ h
      obtain ⟨l1, l2, l3⟩ := plarge_l (decide (min (s1.told + n.1) far > 16384)) n.2 { s1 with told := min (s1.told + n.1) far }
      rw [l1] at q4
      rw [l2] at q2
      exact ⟨q2.trans p3, by dsimp only at q4; omega⟩
theorem pfun_len {all : List Int} {s s' : Ps} {f : Raw} (h : pfun en ee all s = .ok f s') : s'.l.length ≤ s.l.length := by
  unfold pfun at h
  cases h1 : pnum en ee (-far) far s with
  | bad e x => rw [h1] at h; cases h
  | ok a s1 =>
    rw [h1, Res.bind_ok] at h
    cases h2 : pscope en ee all.length a.1.natAbs [] s1 with
    | bad e x => rw [h2] at h; cases h
    | ok sc s2 =>
      rw [h2, Res.bind_ok] at h
      cases h3 : pnum en ee 0 far (plarge (decide ((a.1.natAbs : Int) > 6) || great (sc.map fun v => all.getD v.toNat 0)) a.2 s2) with
      | bad e x => rw [h3] at h; cases h
      | ok o s3 =>
        rw [h3, Res.bind_ok] at h
        cases h4 : pall en ee (sc.map fun v => all.getD v.toNat 0) s3 with
        | bad e x => rw [h4] at h; cases h
        | ok ls s4 =>
          rw [h4, Res.bind_ok] at h
          injection h with e1 e2
          have a6 := (pnum_ok h1).2.2.2.2.2
          have b5 := (pscope_ok _ _ h2).2.2.2.2.1
          have c6 := (pnum_ok h3).2.2.2.2.2
          have d2 := (pall_sh h4).2
          rw [(plarge_l _ _ _).1] at c6
          have : s'.l = s4.l := by rw [← e2]; split <;> rfl
          rw [this]; omega
theorem pfun_big {all : List Int} {s s' : Ps} {f : Raw} {N : Nat} {K : Int} (h : pfun en ee all s = .ok f s') (hs : ShOk N s) (hl : s.l.length ≤ N) (hN : N ≤ 100000) (hall : ∀ v ∈ all, 1 ≤ v) :
    ShOk N s' ∧ (s'.big = none → s.big = none) ∧ f.sizes.length = f.scope.length ∧ f.lines.length ≤ N ∧ (∀ v ∈ f.scope, 0 ≤ v ∧ v < all.length) ∧ f.scope.Nodup ∧ f.sizes = f.scope.map (fun v => all.getD v.toNat 0) ∧
    (s'.big = none → (∀ v ∈ all, v ≤ 32) → 1 ≤ K → K ≤ 2147483648 → okF f K ∧ great f.sizes = false) := by
  unfold pfun at h
  cases h1 : pnum en ee (-far) far s with
  | bad e x => rw [h1] at h; cases h
  | ok a s1 =>
    rw [h1, Res.bind_ok] at h
    obtain ⟨_, _, a3, a4, a5, a6⟩ := pnum_ok h1
    cases h2 : pscope en ee all.length a.1.natAbs [] s1 with
    | bad e x => rw [h2] at h; cases h
    | ok sc s2 =>
      rw [h2, Res.bind_ok] at h
      obtain ⟨b1, b2, b3, b4, b5, b6, b7⟩ := pscope_ok _ _ h2
      have b6 := b6 (by simp)
      have b7 := b7 (by simp)
      simp at b1
      cases h3 : pnum en ee 0 far (plarge (decide ((a.1.natAbs : Int) > 6) || great (sc.map fun v => all.getD v.toNat 0)) a.2 s2) with
      | bad e x => rw [h3] at h; cases h
      | ok o s3 =>
        rw [h3, Res.bind_ok] at h
        obtain ⟨o1, o2, c3, c4, c5, c6⟩ := pnum_ok h3
        obtain ⟨l1, l2, l3⟩ := plarge_l (decide ((a.1.natAbs : Int) > 6) || great (sc.map fun v => all.getD v.toNat 0)) a.2 s2
        rw [l2] at c3; rw [l3] at c4; rw [l1] at c6
        cases h4 : pall en ee (sc.map fun v => all.getD v.toNat 0) s3 with
        | bad e x => rw [h4] at h; cases h
        | ok ls s4 =>
          rw [h4, Res.bind_ok] at h
          have hs3 : ShOk N s3 := by unfold ShOk; rw [c3, b2, a3]; exact hs
          obtain ⟨d1, d2, d3⟩ := pall_big h4 hs3 (by omega)
          have hsh4 : s4.sh = s3.sh := (pall_sh h4).1
          injection h with e1 e2
          subst e1
          have hbig : s'.big = s4.big := by rw [← e2]; split <;> rfl
          have hb4 : s'.big = none → (decide ((a.1.natAbs : Int) > 6) || great (sc.map fun v => all.getD v.toNat 0)) = false ∧ s.big = none := fun hb => by
            rw [hbig] at hb
            have := d3 hb
            rw [c5] at this
            obtain ⟨f1, g1⟩ := plarge_none this
            exact ⟨f1, by rw [← a5, ← b4]; exact g1⟩
          refine ⟨?_, fun hb => (hb4 hb).2, by simp, d2, b6, b7, rfl, fun hb h32 k1 k2 => ?_⟩
          · subst e2
            split
            · intro p hp
              dsimp only at hp
              rcases List.mem_append.1 hp with hp | hp
              · rw [hsh4] at hp; exact hs3 p hp
              · rw [List.mem_singleton.1 hp]; exact ⟨d1, d2⟩
            · unfold ShOk; rw [hsh4]; exact hs3
          · obtain ⟨f1, _⟩ := hb4 hb
            rw [Bool.or_eq_false_iff] at f1
            obtain ⟨f1, f2⟩ := f1
            simp only [decide_eq_false_iff_not] at f1
            refine ⟨⟨by simp; omega, fun v hv => ?_, k1, k2, o1, d1, Nat.le_trans d2 hN, by show sc.length ≤ 6; omega⟩, f2⟩
            obtain ⟨x, hx, rfl⟩ := List.mem_map.1 hv
            obtain ⟨x0, x1⟩ := b6 x hx
            have hxl : x.toNat < all.length := by omega
            rw [List.getD_eq_getElem?_getD, List.getElem?_eq_getElem hxl]
            exact ⟨hall _ (List.getElem_mem _), h32 _ (List.getElem_mem _)⟩
theorem pfuns_big {all : List Int} {N : Nat} {K : Int} (hN : N ≤ 100000) (hall : ∀ v ∈ all, 1 ≤ v) : ∀ (k : Nat) {s s' : Ps} {out : List Raw}, pfuns en ee all k [] s = .ok out s' → ShOk N s → s.l.length ≤ N → s'.l.length ≤ N ∧ ShOk N s' ∧ (s'.big = none → s.big = none) ∧
    (∀ f ∈ out, (∀ v ∈ f.scope, 0 ≤ v ∧ v < all.length) ∧ f.scope.Nodup ∧ f.sizes = f.scope.map (fun v => all.getD v.toNat 0) ∧ f.lines.length ≤ N) ∧ (s'.big = none → (∀ v ∈ all, v ≤ 32) → 1 ≤ K → K ≤ 2147483648 → ∀ f ∈ out, okF f K ∧ great f.sizes = false) := by
  intro k
  induction k with
  | zero => intro s s' out h hs hl; injection h with h1 h2; subst h1 h2; exact ⟨hl, hs, id, fun f hf => (by cases hf), fun _ _ _ _ f hf => (by cases hf)⟩
  | succ k ih =>
    intro s s' out h hs hl
    rw [pfuns_snoc] at h
    cases hp : pfuns en ee all k [] s with
    | bad e x => rw [hp] at h; cases h
    | ok o s1 =>
      rw [hp, Res.bind_ok] at h
      obtain ⟨i1, i2, i3, i4, i5⟩ := ih hp hs hl
      cases hq : pfun en ee all s1 with
      | bad e x => rw [hq] at h; cases h
      | ok f s2 =>
        rw [hq, Res.bind_ok] at h
        injection h with h1 h2
        subst h1 h2
        obtain ⟨j1, j2, j3, j4, j5, j6, j7, j8⟩ := pfun_big (K := K) hq i2 i1 hN hall
        refine ⟨by have := pfun_len hq; omega, j1, fun hb => i3 (j2 hb), fun g hg => ?_, fun hb h32 k1 k2 g hg => ?_⟩
        · rcases List.mem_append.1 hg with hg | hg
          · exact i4 g hg
          · rw [List.mem_singleton.1 hg]; exact ⟨j5, j6, j7, j4⟩
        · rcases List.mem_append.1 hg with hg | hg
          · exact i5 (j2 hb) h32 k1 k2 g hg
          · rw [List.mem_singleton.1 hg]; exact j8 hb h32 k1 k2
end Go.Proofs.YtafdijfbgkcnnaaDoor.wcp
