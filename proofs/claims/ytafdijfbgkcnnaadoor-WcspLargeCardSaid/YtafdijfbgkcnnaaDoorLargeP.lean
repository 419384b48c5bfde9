/- Texts that are right, but too large: plain. -/
import Derived.Test.YtafdijfbgkcnnaaDoorTellQ
import Derived.Test.YtafdijfbgkcnnaaDoorScMid
namespace Go.Proofs.YtafdijfbgkcnnaaDoor.wcp
open Go Go.Proofs.YtafdijfbgkcnnaaDoor.scn
set_option linter.unusedVariables false
variable {en ee : Int}
theorem pword_cons (w : Wd) (l : List Wd) (b : Option Int) (t : Int) (sh : List (List Int × List (List Int × Int))) : pword en ee ⟨w :: l, b, t, sh⟩ = .ok w ⟨l, b, t, sh⟩ := rfl
theorem pnum_cons {v : List UInt8} {p : Nat} {n lo hi : Int} (l : List Wd) (b : Option Int) (t : Int) (sh : List (List Int × List (List Int × Int))) (hr : readW v = (n, 0)) (h0 : lo ≤ n) (h1 : n ≤ hi) :
    pnum en ee lo hi ⟨(v, p) :: l, b, t, sh⟩ = .ok (n, (p : Int)) ⟨l, b, t, sh⟩ := by
  unfold pnum
  rw [pword_cons, Res.bind_ok]
  dsimp only
  rw [hr]
  dsimp only
  rw [if_neg (by omega)]
theorem plarge_no {is : Bool} {x : Int} (s : Ps) (h : is = false) : plarge is x s = s := by unfold plarge; rw [h, if_neg (by simp)]
theorem plarge_had {is : Bool} {x y : Int} (l : List Wd) (t : Int) (sh : List (List Int × List (List Int × Int))) : plarge is x ⟨l, some y, t, sh⟩ = ⟨l, some y, t, sh⟩ := by unfold plarge; rw [if_neg (by simp)]
theorem plarge_yes {is : Bool} {x : Int} (l : List Wd) (t : Int) (sh : List (List Int × List (List Int × Int))) (h : is = true) : plarge is x ⟨l, none, t, sh⟩ = ⟨l, some x, t, sh⟩ := by unfold plarge; rw [if_pos (by simp [h])]
def LargeT (bs : List UInt8) (x : Int) : Prop := bs.length ≤ 20000 ∧ ∃ l f s, Mid bs l ∧ (∀ en ee, pbody en ee ⟨l, none, 0, []⟩ = .ok f s) ∧ s.l = [] ∧ s.big = some x
theorem LargeT.said {bs : List UInt8} {x : Int} (h : LargeT bs x) : ∃ l, scn.Told bs l (-1) ∧ pread (enOf bs (-1)) (eeOf (-1)) l = .err 5 x := by
  obtain ⟨_, l, f, ⟨sl, sb, st, ss⟩, hm, hp, h1, h2⟩ := h
  refine ⟨l, hm.told, ?_⟩
  dsimp only at h1 h2
  subst h1 h2
  exact ((pread_end (hp _ _)).2 rfl).2 rfl |>.1 x rfl
theorem LargeT.wrong {bs : List UInt8} {x : Int} (h : LargeT bs x) : ∃ l, scn.Told (bs ++ [32, 120]) l (-1) ∧ pread (enOf (bs ++ [32, 120]) (-1)) (eeOf (-1)) l = .err 4 (bs.length + 1 : Nat) := by
  obtain ⟨_, l, f, ⟨sl, sb, st, ss⟩, hm, hp, h1, h2⟩ := h
  have hm2 := hm.snoc (v := [120]) (by simp) (by decide)
  refine ⟨_, hm2.told, ?_⟩
  dsimp only at h1 h2
  subst h1 h2
  have hq := pbody_more (en := enOf (bs ++ [32, 120]) (-1)) (ee := 4) (en2 := enOf (bs ++ [32, 120]) (-1)) (ee2 := 4) (l2 := [([120], bs.length + 1)]) ⟨l, none, 0, []⟩
  rw [hp] at hq
  have e0 : (Ps.more ⟨l, none, 0, []⟩ [([120], bs.length + 1)]) = ⟨l ++ [([120], bs.length + 1)], none, 0, []⟩ := rfl
  rw [e0] at hq
  rcases hq with ⟨f', s', h3, h4⟩ | ⟨_, _, h3, _⟩ | h3
  · injection h3 with h5 h6
    subst h5 h6
    exact (pread_end h4).1 _ _ rfl
  · cases h3
  · cases h3
/-! the five kinds -/
theorem rW1 : readW [49] = (1, 0) := by decide
theorem rW0 : readW [48] = (0, 0) := by decide
theorem rW5 : readW [53] = (5, 0) := by decide
theorem psizes_ones {most : Int} (h1 : 1 ≤ most) : ∀ (r : List Wd) (out : List Int) (b : Option Int) (t : Int) (sh : List (List Int × List (List Int × Int))) (rest : List Wd), (∀ x ∈ r, x.1 = [49]) → ∃ out', psizes en ee most r.length out ⟨r ++ rest, b, t, sh⟩ = .ok out' ⟨rest, b, t, sh⟩ ∧ out' = out ++ List.replicate r.length 1 := by
  intro r
  induction r with
  | nil => intro out b t sh rest _; exact ⟨_, rfl, by simp⟩
  | cons x r ih =>
    intro out b t sh rest hx
    obtain ⟨v, p⟩ := x
    obtain rfl : v = [49] := hx (v, p) (by simp)
    obtain ⟨out', h2, h3⟩ := ih (out ++ [1]) b t sh rest fun y hy => hx y (by simp [hy])
    refine ⟨out', ?_, ?_⟩
    · show psizes en ee most (r.length + 1) out ⟨([49], p) :: (r ++ rest), b, t, sh⟩ = _
      unfold psizes
      rw [pnum_cons _ _ _ _ rW1 (by omega) h1, Res.bind_ok, plarge_no _ (by simp)]
      exact h2
    · rw [h3]; simp [List.replicate_succ]
theorem pfun_zero (all : List Int) {p q r : Nat} (b : Option Int) (rest : List Wd) : pfun en ee all ⟨([48], p) :: ([48], q) :: ([48], r) :: rest, b, 0, []⟩ = .ok ⟨[], [], 0, []⟩ ⟨rest, b, 0, []⟩ := by
  unfold pfun
  rw [pnum_cons _ _ _ _ rW0 (by decide) (by decide), Res.bind_ok]
  show (Res.bind (.ok [] _) _) = _
  rw [Res.bind_ok, plarge_no _ (by rfl), pnum_cons _ _ _ _ rW0 (by decide) (by decide), Res.bind_ok]
  unfold pall
  rw [pnum_cons _ _ _ _ rW0 (by decide) (by decide), Res.bind_ok, if_neg (show ¬ (0 : Int) < 0 by decide), plarge_no _ (show decide (min ((0 : Int) + 0) far > 16384) = false by decide)]
  show (Res.bind (.ok [] _) _) = _
  rw [Res.bind_ok, if_neg (show ¬ (0 : Int) < 0 by decide)]
  rfl
theorem pfuns_zeros (all : List Int) : ∀ (k : Nat) (out : List Raw) (b : Option Int) (r : List Wd), r.length = 3 * k → (∀ x ∈ r, x.1 = [48]) → ∃ out', pfuns en ee all k out ⟨r, b, 0, []⟩ = .ok out' ⟨[], b, 0, []⟩ ∧ out' = out ++ List.replicate k ⟨[], [], 0, []⟩ := by
  intro k
  induction k with
  | zero =>
    intro out b r hl _
    obtain rfl : r = [] := List.eq_nil_of_length_eq_zero (by omega)
    exact ⟨_, rfl, by simp⟩
  | succ k ih =>
    intro out b r hl hx
    match r, hl, hx with
    | (v1, p1) :: (v2, p2) :: (v3, p3) :: r, hl, hx =>
      obtain rfl : v1 = [48] := hx (v1, p1) (by simp)
      obtain rfl : v2 = [48] := hx (v2, p2) (by simp)
      obtain rfl : v3 = [48] := hx (v3, p3) (by simp)
      obtain ⟨out', h2, h3⟩ := ih (out ++ [⟨[], [], 0, []⟩]) b r (by simp at hl; omega) fun y hy => hx y (by simp [hy])
      refine ⟨out', ?_, ?_⟩
      · unfold pfuns
        rw [pfun_zero, Res.bind_ok]
        exact h2
      · rw [h3]; simp [List.replicate_succ]
theorem pbody_head {v1 v2 v3 v4 v5 : List UInt8} {p1 p2 p3 p4 p5 : Nat} {n most count k : Int} (l : List Wd) (h1 : v1.length ≤ 64) (r2 : readW v2 = (n, 0)) (r3 : readW v3 = (most, 0)) (r4 : readW v4 = (count, 0)) (r5 : readW v5 = (k, 0))
    (hn : 1 ≤ n ∧ n ≤ far) (hm : 1 ≤ most ∧ most ≤ far) (hc : 0 ≤ count ∧ count ≤ far) (hk : 1 ≤ k ∧ k ≤ far) :
    pbody en ee ⟨(v1, p1) :: (v2, p2) :: (v3, p3) :: (v4, p4) :: (v5, p5) :: l, none, 0, []⟩ = (psizes en ee most n.toNat [] (plarge (decide (k > 2147483648)) p5 (plarge (decide (count > 256)) p4 (plarge (decide (n > 64)) p2 ⟨l, none, 0, []⟩)))).bind fun sizes s => (pfuns en ee sizes count.toNat [] s).bind fun fs s => .ok ⟨v1, k, sizes, fs⟩ s := by
  have hL : ∀ (is : Bool) (x : Int) (l l' : List Wd) (b : Option Int), (∃ b', plarge is x ⟨l, b, 0, []⟩ = ⟨l, b', 0, []⟩ ∧ plarge is x ⟨l', b, 0, []⟩ = ⟨l', b', 0, []⟩) := fun is x l l' b => by
    by_cases h : is = true ∧ b = none
    · exact ⟨some x, by unfold plarge; rw [if_pos h], by unfold plarge; rw [if_pos h]⟩
    · exact ⟨b, by unfold plarge; rw [if_neg h], by unfold plarge; rw [if_neg h]⟩
  unfold pbody
  rw [pword_cons, Res.bind_ok, plarge_no _ (by simpa using h1), pnum_cons _ _ _ _ r2 hn.1 hn.2, Res.bind_ok]
  obtain ⟨b2, e1, e2⟩ := hL (decide (n > 64)) p2 ((v3, p3) :: (v4, p4) :: (v5, p5) :: l) l none
  dsimp only
  rw [e1, e2, pnum_cons _ _ _ _ r3 hm.1 hm.2, Res.bind_ok, pnum_cons _ _ _ _ r4 hc.1 hc.2, Res.bind_ok]
  obtain ⟨b3, e3, e4⟩ := hL (decide (count > 256)) p4 ((v5, p5) :: l) l b2
  dsimp only
  rw [e3, e4, pnum_cons _ _ _ _ r5 hk.1 hk.2, Res.bind_ok]
/-- too many variables -/
theorem large_vars {N : Nat} (h0 : 65 ≤ N) (h1 : N ≤ 564) {bs : List UInt8} {r : List Wd} (hb : bs.length ≤ 20000) {p1 p2 p3 p4 p5 : Nat} (hm : Mid bs ([([116], p1), (Lib.itoa N, p2), ([49], p3), ([48], p4), ([53], p5)] ++ r)) (hr : r.length = N) (hx : ∀ x ∈ r, x.1 = [49]) : LargeT bs p2 := by
  refine ⟨hb, _, ⟨[116], 5, List.replicate N 1, []⟩, ⟨[], some p2, 0, []⟩, hm, fun en ee => ?_, rfl, rfl⟩
  obtain ⟨out', h2, h3⟩ := psizes_ones (en := en) (ee := ee) (most := 1) (by omega) r [] (some p2) 0 [] [] hx
  simp only [List.cons_append, List.nil_append]
  rw [pbody_head r (by decide) (readW_small (n := (N : Int)) (by omega) (by omega)) rW1 rW0 rW5 (by unfold far; omega) (by decide) (by decide) (by decide), plarge_yes _ _ _ (by simp; omega), plarge_had, plarge_had]
  rw [List.append_nil, hr] at h2
  rw [hr] at h3
  rw [show ((N : Int).toNat) = N by omega, h2, Res.bind_ok, h3]
  rfl
/-- one number of values too great -/
theorem large_size {N : Nat} (h0 : 33 ≤ N) (h1 : N ≤ 9999) {bs : List UInt8} (hb : bs.length ≤ 20000) {p1 p2 p3 p4 p5 p6 : Nat} (hm : Mid bs [([116], p1), ([49], p2), ([57, 57, 57, 57], p3), ([48], p4), ([53], p5), (Lib.itoa N, p6)]) : LargeT bs p6 := by
  refine ⟨hb, _, ⟨[116], 5, [(N : Int)], []⟩, ⟨[], some p6, 0, []⟩, hm, fun en ee => ?_, rfl, rfl⟩
  rw [pbody_head _ (by decide) rW1 (show readW [57, 57, 57, 57] = (9999, 0) by decide) rW0 rW5 (by decide) (by decide) (by decide) (by decide), plarge_no _ (by decide), plarge_no _ (by decide), plarge_no _ (by decide)]
  show (psizes en ee 9999 1 [] _).bind _ = _
  unfold psizes
  rw [pnum_cons _ _ _ _ (readW_small (n := (N : Int)) (by omega) (by omega)) (by omega) (by omega), Res.bind_ok, plarge_yes _ _ _ (by simp; omega)]
  rfl
/-- the top too great -/
theorem large_top {N : Nat} (h0 : 2147483649 ≤ N) (h1 : N ≤ 2147559184) {bs : List UInt8} (hb : bs.length ≤ 20000) {p1 p2 p3 p4 p5 p6 : Nat} (hm : Mid bs [([116], p1), ([49], p2), ([49], p3), ([48], p4), (Lib.itoa N, p5), ([49], p6)]) : LargeT bs p5 := by
  refine ⟨hb, _, ⟨[116], N, [1], []⟩, ⟨[], some p5, 0, []⟩, hm, fun en ee => ?_, rfl, rfl⟩
  rw [pbody_head _ (by decide) rW1 rW1 rW0 (readW_small (n := (N : Int)) (by omega) (by omega)) (by decide) (by decide) (by decide) (by unfold far; omega), plarge_no (is := decide ((1 : Int) > 64)) _ (by decide), plarge_no (is := decide ((0 : Int) > 256)) _ (by decide), plarge_yes _ _ _ (by simp; omega)]
  show (psizes en ee 1 1 [] _).bind _ = _
  unfold psizes
  rw [pnum_cons _ _ _ _ rW1 (by omega) (by omega), Res.bind_ok, plarge_had]
  rfl
/-- too many functions -/
theorem large_funs {N : Nat} (h0 : 257 ≤ N) (h1 : N ≤ 306) {bs : List UInt8} {r : List Wd} (hb : bs.length ≤ 20000) {p1 p2 p3 p4 p5 p6 : Nat} (hm : Mid bs ([([116], p1), ([49], p2), ([49], p3), (Lib.itoa N, p4), ([53], p5), ([49], p6)] ++ r)) (hr : r.length = 3 * N) (hx : ∀ x ∈ r, x.1 = [48]) : LargeT bs p4 := by
  refine ⟨hb, _, ⟨[116], 5, [1], List.replicate N ⟨[], [], 0, []⟩⟩, ⟨[], some p4, 0, []⟩, hm, fun en ee => ?_, rfl, rfl⟩
  obtain ⟨out', h2, h3⟩ := pfuns_zeros (en := en) (ee := ee) [1] N [] (some p4) r hr hx
  simp only [List.cons_append, List.nil_append]
  rw [pbody_head _ (by decide) rW1 rW1 (readW_small (n := (N : Int)) (by omega) (by omega)) rW5 (by decide) (by decide) (by unfold far; omega) (by decide), plarge_no (is := decide ((1 : Int) > 64)) _ (by decide), plarge_yes _ _ _ (by simp; omega), plarge_had]
  show (psizes en ee 1 1 [] _).bind _ = _
  unfold psizes
  rw [pnum_cons _ _ _ _ rW1 (by omega) (by omega), Res.bind_ok, plarge_had]
  show (Res.bind (.ok [1] _) _) = _
  rw [Res.bind_ok, show ((N : Int).toNat) = N by omega, h2, Res.bind_ok, h3]
  rfl
def tupT : List UInt8 := [116, 32, 51, 32, 51, 50, 32, 49, 32, 53, 32, 51, 50, 32, 51, 50, 32, 51, 50, 32, 51, 32, 48, 32, 49, 32, 50, 32, 48, 32, 48]
theorem large_tup : LargeT tupT 20 := by
  have m1 := mid_one (v := [116]) (by decide) (by decide)
  have m2 := m1.snoc (v := [51]) (by decide) (by decide)
  have m3 := m2.snoc (v := [51, 50]) (by decide) (by decide)
  have m4 := m3.snoc (v := [49]) (by decide) (by decide)
  have m5 := m4.snoc (v := [53]) (by decide) (by decide)
  have m6 := m5.snoc (v := [51, 50]) (by decide) (by decide)
  have m7 := m6.snoc (v := [51, 50]) (by decide) (by decide)
  have m8 := m7.snoc (v := [51, 50]) (by decide) (by decide)
  have m9 := m8.snoc (v := [51]) (by decide) (by decide)
  have m10 := m9.snoc (v := [48]) (by decide) (by decide)
  have m11 := m10.snoc (v := [49]) (by decide) (by decide)
  have m12 := m11.snoc (v := [50]) (by decide) (by decide)
  have m13 := m12.snoc (v := [48]) (by decide) (by decide)
  have m14 := m13.snoc (v := [48]) (by decide) (by decide)
  exact ⟨by decide, _, ⟨[116], 5, [32, 32, 32], [⟨[0, 1, 2], [32, 32, 32], 0, []⟩]⟩, ⟨[], some 20, 0, []⟩, m14, fun en ee => by rfl, rfl, rfl⟩
end Go.Proofs.YtafdijfbgkcnnaaDoor.wcp
