/- PkH: TellQ, ScMid, LargeP, NumsRead, SharedP, SharedT, TwoFuns, one behind the other. -/
import Derived.Test.YtafdijfbgkcnnaaDoorAwk
import Derived.Test.YtafdijfbgkcnnaaDoorScJoin
import Derived.Test.YtafdijfbgkcnnaaDoorScDec
import Derived.Test.YtafdijfbgkcnnaaDoorAllRef
import Derived.Test.YtafdijfbgkcnnaaDoorTpSame
import Derived.Test.YtafdijfbgkcnnaaDoorRight
import Derived.Test.YtafdijfbgkcnnaaDoorRdRead
/- Every text has words; more behind a blank changes none of them: plain. -/
namespace Go.Proofs.YtafdijfbgkcnnaaDoor.wcp
open Go Go.Proofs.YtafdijfbgkcnnaaDoor.scn
set_option linter.unusedVariables false
theorem skip_total (bs : List UInt8) : ∀ (d a : Nat), bs.length - a ≤ d → a ≤ bs.length → ∃ i, Skip bs a i := by
  intro d
  induction d with
  | zero => intro a h1 h2; exact ⟨a, Nat.le_refl _, h2, fun j h3 h4 => by omega, fun h => by omega⟩
  | succ d ih =>
    intro a h1 h2
    by_cases h : a < bs.length ∧ isB (at_ bs a) = true
    · obtain ⟨i, h3, h4, h5, h6⟩ := ih (a + 1) (by omega) (by omega)
      refine ⟨i, by omega, h4, fun j g1 g2 => ?_, h6⟩
      rcases Nat.lt_or_eq_of_le g1 with g | g
      · exact h5 j (by omega) g2
      · rw [← g]; exact h.2
    · exact ⟨a, Nat.le_refl _, h2, fun j h3 h4 => by omega, fun hl => by
        cases hb : isB (at_ bs a) with
        | false => rfl
        | true => exact absurd ⟨hl, hb⟩ h⟩
theorem ins_total (bs : List UInt8) : ∀ (d a : Nat), bs.length - a ≤ d → a ≤ bs.length → ∃ i, Ins bs a i := by
  intro d
  induction d with
  | zero => intro a h1 h2; exact ⟨a, Nat.le_refl _, h2, fun j h3 h4 => by omega, fun h => by omega⟩
  | succ d ih =>
    intro a h1 h2
    by_cases h : a < bs.length ∧ isIn (at_ bs a) = true
    · obtain ⟨i, h3, h4, h5, h6⟩ := ih (a + 1) (by omega) (by omega)
      refine ⟨i, by omega, h4, fun j g1 g2 => ?_, h6⟩
      rcases Nat.lt_or_eq_of_le g1 with g | g
      · exact h5 j (by omega) g2
      · rw [← g]; exact h.2
    · exact ⟨a, Nat.le_refl _, h2, fun j h3 h4 => by omega, fun hl => by
        cases hb : isIn (at_ bs a) with
        | false => rfl
        | true => exact absurd ⟨hl, hb⟩ h⟩
theorem next_total (bs : List UInt8) (a : Nat) (ha : a ≤ bs.length) : ∃ r, scn.Next bs a r := by
  obtain ⟨i, hi⟩ := skip_total bs _ a (Nat.le_refl _) ha
  obtain ⟨j, hj⟩ := ins_total bs _ i (Nat.le_refl _) hi.len
  by_cases hw : Wrong bs j
  · exact ⟨.bad j, i, j, hi, hj, .inl ⟨hw, rfl⟩⟩
  · rcases Nat.lt_or_eq_of_le hj.le with h | h
    · exact ⟨.word i j, i, j, hi, hj, .inr (.inr ⟨hw, h, rfl⟩)⟩
    · exact ⟨.none, i, j, hi, hj, .inr (.inl ⟨hw, h, rfl⟩)⟩
def EndAt (bs : List UInt8) (z : Nat) (wb : Int) : Prop := (wb = -1 ∧ scn.Next bs z .none) ∨ ∃ b : Nat, wb = b ∧ scn.Next bs z (.bad b)
theorem chain_total (bs : List UInt8) : ∀ (d a : Nat), bs.length - a ≤ d → a ≤ bs.length → ∃ l z wb, Chain bs a l z ∧ EndAt bs z wb := by
  intro d
  induction d with
  | zero =>
    intro a h1 h2
    obtain ⟨r, hr⟩ := next_total bs a h2
    cases r with
    | bad b => exact ⟨[], a, b, .nil a, .inr ⟨b, rfl, hr⟩⟩
    | none => exact ⟨[], a, -1, .nil a, .inl ⟨rfl, hr⟩⟩
    | word i j =>
      have hw := hr.word_at
      have := hw.1.le; have := hw.2.1.len; have := hw.2.2.2
      omega
  | succ d ih =>
    intro a h1 h2
    obtain ⟨r, hr⟩ := next_total bs a h2
    cases r with
    | bad b => exact ⟨[], a, b, .nil a, .inr ⟨b, rfl, hr⟩⟩
    | none => exact ⟨[], a, -1, .nil a, .inl ⟨rfl, hr⟩⟩
    | word i j =>
      have hw := hr.word_at
      have := hw.1.le; have := hw.2.1.len; have := hw.2.2.2
      obtain ⟨l, z, wb, hc, he⟩ := ih j (by omega) (by omega)
      exact ⟨_, z, wb, .cons hr hc, he⟩
theorem told_total (bs : List UInt8) : ∃ l wb, scn.Told bs l wb := by
  obtain ⟨l, z, wb, hc, he⟩ := chain_total bs _ 0 (Nat.le_refl _) (Nat.zero_le _)
  exact ⟨l, wb, z, hc, he⟩
theorem at_app {bs ext : List UInt8} {j : Nat} (h : j < bs.length) : at_ (bs ++ ext) j = at_ bs j := by
  unfold at_; simp [List.getD_eq_getElem?_getD, List.getElem?_append_left h]
theorem at_mid {bs ext : List UInt8} : at_ (bs ++ 32 :: ext) bs.length = 32 := by
  unfold at_; simp [List.getD_eq_getElem?_getD]
theorem sub_app {bs ext : List UInt8} {i j : Nat} (hj : j ≤ bs.length) : sub (bs ++ ext) i j = sub bs i j := by
  unfold sub; rw [List.take_append_of_le_length hj]
theorem skip_app {bs ext : List UInt8} {a i : Nat} (h : Skip bs a i) (hi : i < bs.length) : Skip (bs ++ ext) a i :=
  ⟨h.le, by simp; omega, fun j h1 h2 => by rw [at_app (by omega)]; exact h.all j h1 h2, fun _ => by rw [at_app hi]; exact h.stop hi⟩
/-- a word, or a wrong byte, stays -/
theorem word_app {bs ext : List UInt8} {a i j : Nat} (h : scn.Next bs a (.word i j)) : scn.Next (bs ++ 32 :: ext) a (.word i j) := by
  obtain ⟨h1, h2, h3, h4⟩ := h.word_at
  have hj := h2.len
  refine ⟨i, j, skip_app h1 (by omega), ⟨h2.le, by simp; omega, fun q g1 g2 => by rw [at_app (by omega)]; exact h2.all q g1 g2, fun _ => ?_⟩, .inr (.inr ⟨fun hw => ?_, h4, rfl⟩)⟩
  · rcases Nat.lt_or_eq_of_le hj with g | g
    · rw [at_app g]; exact h2.stop g
    · rw [g, at_mid]; rfl
  · rcases Nat.lt_or_eq_of_le hj with g | g
    · exact h3 ⟨g, by rw [← at_app g]; exact hw.2⟩
    · have := hw.2; rw [g, at_mid] at this; cases this
theorem bad_app {bs ext : List UInt8} {a b : Nat} (h : scn.Next bs a (.bad b)) : scn.Next (bs ++ ext) a (.bad b) := by
  obtain ⟨i, h1, h2, h3⟩ := h.bad_at
  have hb := h3.1
  have hi := h2.le
  exact ⟨i, b, skip_app h1 (by omega), ⟨h2.le, by simp; omega, fun q g1 g2 => by rw [at_app (by omega)]; exact h2.all q g1 g2, fun _ => by rw [at_app hb]; exact h2.stop hb⟩, .inl ⟨⟨by simp; omega, by rw [at_app hb]; exact h3.2⟩, rfl⟩⟩
theorem chain_app {bs ext : List UInt8} {a z : Nat} {l : List Wd} (h : Chain bs a l z) : Chain (bs ++ 32 :: ext) a l z := by
  induction h with
  | nil a => exact .nil a
  | cons h1 _ ih =>
    rename_i i j _ _ _
    have := Chain.cons (word_app (ext := ext) h1) ih
    rw [sub_app h1.word_at.2.1.len] at this
    exact this
theorem chain_join {bs : List UInt8} {a z y : Nat} {l m : List Wd} (h : Chain bs a l z) (k : Chain bs z m y) : Chain bs a (l ++ m) y := by
  induction h with
  | nil a => exact k
  | cons h1 _ ih => exact .cons h1 (ih k)
theorem chain_end {bs : List UInt8} {a z : Nat} {l : List Wd} (h : Chain bs a l z) : a ≤ bs.length → z ≤ bs.length := by
  induction h with
  | nil a => exact id
  | cons h1 _ ih => exact fun _ => ih h1.word_at.2.1.len
theorem told_more {bs ext : List UInt8} {l : List Wd} {wb : Int} (h : scn.Told bs l wb) : ∃ l2 wb2, scn.Told (bs ++ 32 :: ext) (l ++ l2) wb2 ∧ (wb ≠ -1 → l2 = [] ∧ wb2 = wb) := by
  obtain ⟨z, hc, he⟩ := h
  have hz := chain_end hc (Nat.zero_le _)
  rcases he with ⟨rfl, hn⟩ | ⟨b, rfl, hn⟩
  · obtain ⟨l2, y, wb2, h2, h3⟩ := chain_total (bs ++ 32 :: ext) _ z (Nat.le_refl _) (by simp; omega)
    exact ⟨l2, wb2, ⟨y, chain_join (chain_app hc) h2, h3⟩, fun h => absurd rfl h⟩
  · exact ⟨[], b, ⟨z, by rw [List.append_nil]; exact chain_app hc, .inr ⟨b, rfl, bad_app hn⟩⟩, fun _ => ⟨rfl, rfl⟩⟩
/-- an error ahead of the end stays at its place -/
theorem places {bs ext : List UInt8} {l : List Wd} {wb e x : Int} (h : scn.Told bs l wb) (hp : pread (enOf bs wb) (eeOf wb) l = .err e x) (h5 : e ≠ 5) (hx : x ≠ bs.length) :
    ∃ l2 wb2, scn.Told (bs ++ 32 :: ext) l2 wb2 ∧ pread (enOf (bs ++ 32 :: ext) wb2) (eeOf wb2) l2 = .err e x := by
  obtain ⟨l2, wb2, h2, h3⟩ := told_more (ext := ext) h
  refine ⟨_, wb2, h2, ?_⟩
  by_cases hw : wb = -1
  · subst hw
    refine pread_more hp h5 ?_ ?_
    · unfold enOf; rw [if_pos rfl]; intro h; injection h with _ h; exact hx h
    · unfold eeOf; rw [if_pos rfl]; intro h; exact absurd h (by decide)
  · obtain ⟨rfl, rfl⟩ := h3 hw
    rw [List.append_nil]
    unfold enOf at hp ⊢
    rw [if_neg hw] at hp ⊢
    exact hp
end Go.Proofs.YtafdijfbgkcnnaaDoor.wcp
/- Words put together, one blank between: the text ends in its last word. Plain. -/
namespace Go.Proofs.YtafdijfbgkcnnaaDoor.scn
open Go Go.RowKit Go.Proofs.YtafdijfbgkcnnaaDoor.words
set_option linter.unusedVariables false
/-- whatever follows, so far these are the words, the last under way -/
def Mid (bs : List UInt8) (l : List Wd) : Prop := ∀ ext, Far (bs ++ ext) bs.length l true
theorem Mid.told {bs : List UInt8} {l : List Wd} (h : Mid bs l) : Told bs l (-1) := by
  have := h []
  rw [List.append_nil] at this
  exact this.ends
theorem Mid.blank {bs : List UInt8} {l : List Wd} (h : Mid bs l) {b : UInt8} (hb : isB b.toNat = true) : Bld (bs ++ [b]) l := by
  intro ext
  have h1 := h ([b] ++ ext)
  have := h1.between (by simp) (by
    unfold at_
    have := getD_mid bs [b] ext (k := 0) (by simp)
    rw [Nat.add_zero] at this
    rw [this]; exact hb)
  rw [List.append_assoc, List.length_append]
  exact this
theorem Bld.mid {bs : List UInt8} {l : List Wd} (h : Bld bs l) {v : List UInt8} (hv : v ≠ []) (hall : v.all (fun b => isIn b.toNat) = true) : Mid (bs ++ v) (l ++ [(v, bs.length)]) := by
  intro ext
  obtain ⟨c, cs, rfl⟩ : ∃ c cs, v = c :: cs := by cases v with
    | nil => exact absurd rfl hv
    | cons c cs => exact ⟨c, cs, rfl⟩
  have hat : ∀ k, k < (c :: cs).length → isIn (at_ (bs ++ ((c :: cs) ++ ext)) (bs.length + k)) = true := fun k hk => by
    unfold at_
    rw [getD_mid _ _ _ hk]
    rw [List.all_eq_true] at hall
    refine hall _ ?_
    rw [List.getD_eq_getElem?_getD, List.getElem?_eq_getElem hk]
    exact List.getElem_mem hk
  have h0 := h ((c :: cs) ++ ext)
  have key : ∀ k, k < (c :: cs).length → Far (bs ++ ((c :: cs) ++ ext)) (bs.length + k + 1) (l ++ [((c :: cs).take (k + 1), bs.length)]) true := by
    intro k
    induction k with
    | zero =>
      intro hk
      have h1 := h0.begins (by simp) (hat 0 hk)
      rw [show (bs ++ ((c :: cs) ++ ext)).getD bs.length 0 = c by
        have := getD_mid bs (c :: cs) ext (k := 0) hk
        rw [Nat.add_zero] at this
        rw [this]; rfl] at h1
      exact h1
    | succ k ih =>
      intro hk
      obtain ⟨l0, w, s, he, _, h2⟩ := (ih (by omega)).goes (by simp at hk ⊢; omega) (hat (k + 1) hk)
      obtain ⟨rfl, h3⟩ := List.append_inj' he rfl
      injection h3 with h3
      injection h3 with h4 h5
      subst h4; subst h5
      have h6 := getD_mid bs (c :: cs) ext (k := k + 1) hk
      rw [show bs.length + k + 1 = bs.length + (k + 1) by omega, h6] at h2
      have h7 : (c :: cs).take (k + 1) ++ [(c :: cs).getD (k + 1) 0] = (c :: cs).take (k + 1 + 1) := by
        rw [List.take_add_one (i := k + 1), List.getD_eq_getElem?_getD, List.getElem?_eq_getElem hk]
        rfl
      rw [h7] at h2
      exact h2
  have h1 := key cs.length (by simp)
  rw [show (c :: cs).take (cs.length + 1) = c :: cs from List.take_of_length_le (by simp)] at h1
  have e1 : bs ++ (c :: cs) ++ ext = bs ++ ((c :: cs) ++ ext) := by simp
  have e2 : (bs ++ (c :: cs)).length = bs.length + cs.length + 1 := by simp; omega
  rw [e1, e2]
  exact h1
theorem mid_one {v : List UInt8} (hv : v ≠ []) (hall : v.all (fun b => isIn b.toNat) = true) : Mid v [(v, 0)] := bld_nil.mid hv hall
/-- one word more -/
theorem Mid.snoc {bs : List UInt8} {l : List Wd} (h : Mid bs l) {v : List UInt8} (hv : v ≠ []) (hall : v.all (fun b => isIn b.toNat) = true) : Mid (bs ++ 32 :: v) (l ++ [(v, bs.length + 1)]) := by
  have := (h.blank (b := 32) (by decide)).mid hv hall
  rw [List.append_assoc, List.length_append] at this
  exact this
/-! a number's digits are a word -/
theorem isD_in {b : UInt8} (h : isD b = true) : isIn b.toNat = true := by
  simp only [isD, Bool.and_eq_true, decide_eq_true_eq] at h
  simp only [isIn, Bool.and_eq_true, decide_eq_true_eq]
  omega
theorem itoa_in (n : Int) : Lib.itoa n ≠ [] ∧ (Lib.itoa n).all (fun b => isIn b.toNat) = true := by
  obtain ⟨_, h2, h3⟩ := dd_all n.natAbs
  have h4 : (Lib.decDigits n.natAbs).all (fun b => isIn b.toNat) = true := by
    rw [List.all_eq_true] at h2 ⊢
    exact fun b hb => isD_in (h2 b hb)
  by_cases h : n < 0
  · have e : Lib.itoa n = 45 :: Lib.decDigits n.natAbs := by unfold Lib.itoa; rw [if_pos h]
    rw [e]
    refine ⟨by simp, ?_⟩
    rw [List.all_cons, h4]; rfl
  · have e : Lib.itoa n = Lib.decDigits n.natAbs := by unfold Lib.itoa; rw [if_neg h]; congr 1; omega
    rw [e]
    exact ⟨h3, h4⟩
theorem readW_small {n : Int} (h0 : -4611686018427387904 ≤ n) (h1 : n ≤ 4611686018427387904) : readW (Lib.itoa n) = (n, 0) := by
  rw [readW_itoa]; congr 1; omega
end Go.Proofs.YtafdijfbgkcnnaaDoor.scn
/- Texts that are right, but too large: plain. -/
namespace Go.Proofs.YtafdijfbgkcnnaaDoor.wcp
open Go Go.Proofs.YtafdijfbgkcnnaaDoor.scn
set_option linter.unusedVariables false
variable {en ee : Int}
theorem pword_cons (w : Wd) (l : List Wd) (b : Option Int) (t : Int) (sh : List (List Int × List (List Int × Int))) : pword en ee ⟨w :: l, b, t, sh⟩ = .ok w ⟨l, b, t, sh⟩ := rfl
theorem pnum_cons {v : List UInt8} {p : Nat} {n lo hi : Int} (l : List Wd) (b : Option Int) (t : Int) (sh : List (List Int × List (List Int × Int))) (hr : readW v = (n, 0)) (h0 : lo ≤ n) (h1 : n ≤ hi) :
    pnum en ee lo hi ⟨(v, p) :: l, b, t, sh⟩ = .ok (n, (p : Int)) ⟨l, b, t, sh⟩ := by
  unfold pnum
  rw [pword_cons, Res.bind_ok]
  dsimp only
  rw [hr]
  dsimp only
  rw [if_neg (by omega)]
theorem plarge_no {is : Bool} {x : Int} (s : Ps) (h : is = false) : plarge is x s = s := by unfold plarge; rw [h, if_neg (by simp)]
theorem plarge_had {is : Bool} {x y : Int} (l : List Wd) (t : Int) (sh : List (List Int × List (List Int × Int))) : plarge is x ⟨l, some y, t, sh⟩ = ⟨l, some y, t, sh⟩ := by unfold plarge; rw [if_neg (by simp)]
theorem plarge_yes {is : Bool} {x : Int} (l : List Wd) (t : Int) (sh : List (List Int × List (List Int × Int))) (h : is = true) : plarge is x ⟨l, none, t, sh⟩ = ⟨l, some x, t, sh⟩ := by unfold plarge; rw [if_pos (by simp [h])]
def LargeT (bs : List UInt8) (x : Int) : Prop := bs.length ≤ 20000 ∧ ∃ l f s, Mid bs l ∧ (∀ en ee, pbody en ee ⟨l, none, 0, []⟩ = .ok f s) ∧ s.l = [] ∧ s.big = some x
theorem LargeT.said {bs : List UInt8} {x : Int} (h : LargeT bs x) : ∃ l, scn.Told bs l (-1) ∧ pread (enOf bs (-1)) (eeOf (-1)) l = .err 5 x := by
  obtain ⟨_, l, f, ⟨sl, sb, st, ss⟩, hm, hp, h1, h2⟩ := h
  refine ⟨l, hm.told, ?_⟩
  dsimp only at h1 h2
  subst h1 h2
  exact ((pread_end (hp _ _)).2 rfl).2 rfl |>.1 x rfl
theorem LargeT.wrong {bs : List UInt8} {x : Int} (h : LargeT bs x) : ∃ l, scn.Told (bs ++ [32, 120]) l (-1) ∧ pread (enOf (bs ++ [32, 120]) (-1)) (eeOf (-1)) l = .err 4 (bs.length + 1 : Nat) := by
  obtain ⟨_, l, f, ⟨sl, sb, st, ss⟩, hm, hp, h1, h2⟩ := h
  have hm2 := hm.snoc (v := [120]) (by simp) (by decide)
  refine ⟨_, hm2.told, ?_⟩
  dsimp only at h1 h2
  subst h1 h2
  have hq := pbody_more (en := enOf (bs ++ [32, 120]) (-1)) (ee := 4) (en2 := enOf (bs ++ [32, 120]) (-1)) (ee2 := 4) (l2 := [([120], bs.length + 1)]) ⟨l, none, 0, []⟩
  rw [hp] at hq
  have e0 : (Ps.more ⟨l, none, 0, []⟩ [([120], bs.length + 1)]) = ⟨l ++ [([120], bs.length + 1)], none, 0, []⟩ := rfl
  rw [e0] at hq
  rcases hq with ⟨f', s', h3, h4⟩ | ⟨_, _, h3, _⟩ | h3
  · injection h3 with h5 h6
    subst h5 h6
    exact (pread_end h4).1 _ _ rfl
  · cases h3
  · cases h3
/-! the five kinds -/
theorem rW1 : readW [49] = (1, 0) := by decide
theorem rW0 : readW [48] = (0, 0) := by decide
theorem rW5 : readW [53] = (5, 0) := by decide
theorem psizes_ones {most : Int} (h1 : 1 ≤ most) : ∀ (r : List Wd) (out : List Int) (b : Option Int) (t : Int) (sh : List (List Int × List (List Int × Int))) (rest : List Wd), (∀ x ∈ r, x.1 = [49]) → ∃ out', psizes en ee most r.length out ⟨r ++ rest, b, t, sh⟩ = .ok out' ⟨rest, b, t, sh⟩ ∧ out' = out ++ List.replicate r.length 1 := by
  intro r
  induction r with
  | nil => intro out b t sh rest _; exact ⟨_, rfl, by simp⟩
  | cons x r ih =>
    intro out b t sh rest hx
    obtain ⟨v, p⟩ := x
    obtain rfl : v = [49] := hx (v, p) (by simp)
    obtain ⟨out', h2, h3⟩ := ih (out ++ [1]) b t sh rest fun y hy => hx y (by simp [hy])
    refine ⟨out', ?_, ?_⟩
    · show psizes en ee most (r.length + 1) out ⟨([49], p) :: (r ++ rest), b, t, sh⟩ = _
      unfold psizes
      rw [pnum_cons _ _ _ _ rW1 (by omega) h1, Res.bind_ok, plarge_no _ (by simp)]
      exact h2
    · rw [h3]; simp [List.replicate_succ]
theorem pfun_zero (all : List Int) {p q r : Nat} (b : Option Int) (rest : List Wd) : pfun en ee all ⟨([48], p) :: ([48], q) :: ([48], r) :: rest, b, 0, []⟩ = .ok ⟨[], [], 0, []⟩ ⟨rest, b, 0, []⟩ := by
  unfold pfun
  rw [pnum_cons _ _ _ _ rW0 (by decide) (by decide), Res.bind_ok]
  show (Res.bind (.ok [] _) _) = _
  rw [Res.bind_ok, plarge_no _ (by rfl), pnum_cons _ _ _ _ rW0 (by decide) (by decide), Res.bind_ok]
  unfold pall
  rw [pnum_cons _ _ _ _ rW0 (by decide) (by decide), Res.bind_ok, if_neg (show ¬ (0 : Int) < 0 by decide), plarge_no _ (show decide (min ((0 : Int) + 0) far > 16384) = false by decide)]
  show (Res.bind (.ok [] _) _) = _
  rw [Res.bind_ok, if_neg (show ¬ (0 : Int) < 0 by decide)]
  rfl
theorem pfuns_zeros (all : List Int) : ∀ (k : Nat) (out : List Raw) (b : Option Int) (r : List Wd), r.length = 3 * k → (∀ x ∈ r, x.1 = [48]) → ∃ out', pfuns en ee all k out ⟨r, b, 0, []⟩ = .ok out' ⟨[], b, 0, []⟩ ∧ out' = out ++ List.replicate k ⟨[], [], 0, []⟩ := by
  intro k
  induction k with
  | zero =>
    intro out b r hl _
    obtain rfl : r = [] := List.eq_nil_of_length_eq_zero (by omega)
    exact ⟨_, rfl, by simp⟩
  | succ k ih =>
    intro out b r hl hx
    match r, hl, hx with
    | (v1, p1) :: (v2, p2) :: (v3, p3) :: r, hl, hx =>
      obtain rfl : v1 = [48] := hx (v1, p1) (by simp)
      obtain rfl : v2 = [48] := hx (v2, p2) (by simp)
      obtain rfl : v3 = [48] := hx (v3, p3) (by simp)
      obtain ⟨out', h2, h3⟩ := ih (out ++ [⟨[], [], 0, []⟩]) b r (by simp at hl; omega) fun y hy => hx y (by simp [hy])
      refine ⟨out', ?_, ?_⟩
      · unfold pfuns
        rw [pfun_zero, Res.bind_ok]
        exact h2
      · rw [h3]; simp [List.replicate_succ]
theorem pbody_head {v1 v2 v3 v4 v5 : List UInt8} {p1 p2 p3 p4 p5 : Nat} {n most count k : Int} (l : List Wd) (h1 : v1.length ≤ 64) (r2 : readW v2 = (n, 0)) (r3 : readW v3 = (most, 0)) (r4 : readW v4 = (count, 0)) (r5 : readW v5 = (k, 0))
    (hn : 1 ≤ n ∧ n ≤ far) (hm : 1 ≤ most ∧ most ≤ far) (hc : 0 ≤ count ∧ count ≤ far) (hk : 1 ≤ k ∧ k ≤ far) :
    pbody en ee ⟨(v1, p1) :: (v2, p2) :: (v3, p3) :: (v4, p4) :: (v5, p5) :: l, none, 0, []⟩ = (psizes en ee most n.toNat [] (plarge (decide (k > 2147483648)) p5 (plarge (decide (count > 256)) p4 (plarge (decide (n > 64)) p2 ⟨l, none, 0, []⟩)))).bind fun sizes s => (pfuns en ee sizes count.toNat [] s).bind fun fs s => .ok ⟨v1, k, sizes, fs⟩ s := by
  have hL : ∀ (is : Bool) (x : Int) (l l' : List Wd) (b : Option Int), (∃ b', plarge is x ⟨l, b, 0, []⟩ = ⟨l, b', 0, []⟩ ∧ plarge is x ⟨l', b, 0, []⟩ = ⟨l', b', 0, []⟩) := fun is x l l' b => by
    by_cases h : is = true ∧ b = none
    · exact ⟨some x, by unfold plarge; rw [if_pos h], by unfold plarge; rw [if_pos h]⟩
    · exact ⟨b, by unfold plarge; rw [if_neg h], by unfold plarge; rw [if_neg h]⟩
  unfold pbody
  rw [pword_cons, Res.bind_ok, plarge_no _ (by simpa using h1), pnum_cons _ _ _ _ r2 hn.1 hn.2, Res.bind_ok]
  obtain ⟨b2, e1, e2⟩ := hL (decide (n > 64)) p2 ((v3, p3) :: (v4, p4) :: (v5, p5) :: l) l none
  dsimp only
  rw [e1, e2, pnum_cons _ _ _ _ r3 hm.1 hm.2, Res.bind_ok, pnum_cons _ _ _ _ r4 hc.1 hc.2, Res.bind_ok]
  obtain ⟨b3, e3, e4⟩ := hL (decide (count > 256)) p4 ((v5, p5) :: l) l b2
  dsimp only
  rw [e3, e4, pnum_cons _ _ _ _ r5 hk.1 hk.2, Res.bind_ok]
/-- too many variables -/
theorem large_vars {N : Nat} (h0 : 65 ≤ N) (h1 : N ≤ 564) {bs : List UInt8} {r : List Wd} (hb : bs.length ≤ 20000) {p1 p2 p3 p4 p5 : Nat} (hm : Mid bs ([([116], p1), (Lib.itoa N, p2), ([49], p3), ([48], p4), ([53], p5)] ++ r)) (hr : r.length = N) (hx : ∀ x ∈ r, x.1 = [49]) : LargeT bs p2 := by
  refine ⟨hb, _, ⟨[116], 5, List.replicate N 1, []⟩, ⟨[], some p2, 0, []⟩, hm, fun en ee => ?_, rfl, rfl⟩
  obtain ⟨out', h2, h3⟩ := psizes_ones (en := en) (ee := ee) (most := 1) (by omega) r [] (some p2) 0 [] [] hx
  simp only [List.cons_append, List.nil_append]
  rw [pbody_head r (by decide) (readW_small (n := (N : Int)) (by omega) (by omega)) rW1 rW0 rW5 (by unfold far; omega) (by decide) (by decide) (by decide), plarge_yes _ _ _ (by simp; omega), plarge_had, plarge_had]
  rw [List.append_nil, hr] at h2
  rw [hr] at h3
  rw [show ((N : Int).toNat) = N by omega, h2, Res.bind_ok, h3]
  rfl
/-- one number of values too great -/
theorem large_size {N : Nat} (h0 : 33 ≤ N) (h1 : N ≤ 9999) {bs : List UInt8} (hb : bs.length ≤ 20000) {p1 p2 p3 p4 p5 p6 : Nat} (hm : Mid bs [([116], p1), ([49], p2), ([57, 57, 57, 57], p3), ([48], p4), ([53], p5), (Lib.itoa N, p6)]) : LargeT bs p6 := by
  refine ⟨hb, _, ⟨[116], 5, [(N : Int)], []⟩, ⟨[], some p6, 0, []⟩, hm, fun en ee => ?_, rfl, rfl⟩
  rw [pbody_head _ (by decide) rW1 (show readW [57, 57, 57, 57] = (9999, 0) by decide) rW0 rW5 (by decide) (by decide) (by decide) (by decide), plarge_no _ (by decide), plarge_no _ (by decide), plarge_no _ (by decide)]
  show (psizes en ee 9999 1 [] _).bind _ = _
  unfold psizes
  rw [pnum_cons _ _ _ _ (readW_small (n := (N : Int)) (by omega) (by omega)) (by omega) (by omega), Res.bind_ok, plarge_yes _ _ _ (by simp; omega)]
  rfl
/-- the top too great -/
theorem large_top {N : Nat} (h0 : 2147483649 ≤ N) (h1 : N ≤ 2147559184) {bs : List UInt8} (hb : bs.length ≤ 20000) {p1 p2 p3 p4 p5 p6 : Nat} (hm : Mid bs [([116], p1), ([49], p2), ([49], p3), ([48], p4), (Lib.itoa N, p5), ([49], p6)]) : LargeT bs p5 := by
  refine ⟨hb, _, ⟨[116], N, [1], []⟩, ⟨[], some p5, 0, []⟩, hm, fun en ee => ?_, rfl, rfl⟩
  rw [pbody_head _ (by decide) rW1 rW1 rW0 (readW_small (n := (N : Int)) (by omega) (by omega)) (by decide) (by decide) (by decide) (by unfold far; omega), plarge_no (is := decide ((1 : Int) > 64)) _ (by decide), plarge_no (is := decide ((0 : Int) > 256)) _ (by decide), plarge_yes _ _ _ (by simp; omega)]
  show (psizes en ee 1 1 [] _).bind _ = _
  unfold psizes
  rw [pnum_cons _ _ _ _ rW1 (by omega) (by omega), Res.bind_ok, plarge_had]
  rfl
/-- too many functions -/
theorem large_funs {N : Nat} (h0 : 257 ≤ N) (h1 : N ≤ 306) {bs : List UInt8} {r : List Wd} (hb : bs.length ≤ 20000) {p1 p2 p3 p4 p5 p6 : Nat} (hm : Mid bs ([([116], p1), ([49], p2), ([49], p3), (Lib.itoa N, p4), ([53], p5), ([49], p6)] ++ r)) (hr : r.length = 3 * N) (hx : ∀ x ∈ r, x.1 = [48]) : LargeT bs p4 := by
  refine ⟨hb, _, ⟨[116], 5, [1], List.replicate N ⟨[], [], 0, []⟩⟩, ⟨[], some p4, 0, []⟩, hm, fun en ee => ?_, rfl, rfl⟩
  obtain ⟨out', h2, h3⟩ := pfuns_zeros (en := en) (ee := ee) [1] N [] (some p4) r hr hx
  simp only [List.cons_append, List.nil_append]
  rw [pbody_head _ (by decide) rW1 rW1 (readW_small (n := (N : Int)) (by omega) (by omega)) rW5 (by decide) (by decide) (by unfold far; omega) (by decide), plarge_no (is := decide ((1 : Int) > 64)) _ (by decide), plarge_yes _ _ _ (by simp; omega), plarge_had]
  show (psizes en ee 1 1 [] _).bind _ = _
  unfold psizes
  rw [pnum_cons _ _ _ _ rW1 (by omega) (by omega), Res.bind_ok, plarge_had]
  show (Res.bind (.ok [1] _) _) = _
  rw [Res.bind_ok, show ((N : Int).toNat) = N by omega, h2, Res.bind_ok, h3]
  rfl
def tupT : List UInt8 := [116, 32, 51, 32, 51, 50, 32, 49, 32, 53, 32, 51, 50, 32, 51, 50, 32, 51, 50, 32, 51, 32, 48, 32, 49, 32, 50, 32, 48, 32, 48]
theorem large_tup : LargeT tupT 20 := by
  have m1 := mid_one (v := [116]) (by decide) (by decide)
  have m2 := m1.snoc (v := [51]) (by decide) (by decide)
  have m3 := m2.snoc (v := [51, 50]) (by decide) (by decide)
  have m4 := m3.snoc (v := [49]) (by decide) (by decide)
  have m5 := m4.snoc (v := [53]) (by decide) (by decide)
  have m6 := m5.snoc (v := [51, 50]) (by decide) (by decide)
  have m7 := m6.snoc (v := [51, 50]) (by decide) (by decide)
  have m8 := m7.snoc (v := [51, 50]) (by decide) (by decide)
  have m9 := m8.snoc (v := [51]) (by decide) (by decide)
  have m10 := m9.snoc (v := [48]) (by decide) (by decide)
  have m11 := m10.snoc (v := [49]) (by decide) (by decide)
  have m12 := m11.snoc (v := [50]) (by decide) (by decide)
  have m13 := m12.snoc (v := [48]) (by decide) (by decide)
  have m14 := m13.snoc (v := [48]) (by decide) (by decide)
  exact ⟨by decide, _, ⟨[116], 5, [32, 32, 32], [⟨[0, 1, 2], [32, 32, 32], 0, []⟩]⟩, ⟨[], some 20, 0, []⟩, m14, fun en ee => by rfl, rfl, rfl⟩
end Go.Proofs.YtafdijfbgkcnnaaDoor.wcp
/- Texts of a name and numbers, read plainly. -/
namespace Go.Proofs.YtafdijfbgkcnnaaDoor.wcp
open Go Go.Proofs.YtafdijfbgkcnnaaDoor.scn
set_option linter.unusedVariables false
variable {en ee : Int}
/-- numbers as text: a blank ahead of each -/
def numT (vs : List Int) : List UInt8 := vs.flatMap fun v => 32 :: Lib.itoa v
theorem numT_cons (v : Int) (vs : List Int) : numT (v :: vs) = 32 :: Lib.itoa v ++ numT vs := rfl
theorem numT_append (vs us : List Int) : numT (vs ++ us) = numT vs ++ numT us := by unfold numT; rw [List.flatMap_append]
/-- words that are these numbers -/
def WN (l : List Wd) (vs : List Int) : Prop := l.map Prod.fst = vs.map Lib.itoa
theorem Mid.nums : ∀ (vs : List Int) {bs : List UInt8} {l : List Wd}, scn.Mid bs l → ∃ lw, scn.Mid (bs ++ numT vs) (l ++ lw) ∧ WN lw vs := by
  intro vs
  induction vs with
  | nil => intro bs l h; exact ⟨[], by simpa [numT] using h, rfl⟩
  | cons v vs ih =>
    intro bs l h
    obtain ⟨i1, i2⟩ := itoa_in v
    obtain ⟨lw, h2, h3⟩ := ih (h.snoc i1 i2)
    refine ⟨(Lib.itoa v, bs.length + 1) :: lw, ?_, ?_⟩
    · rw [numT_cons]
      simpa [List.append_assoc] using h2
    · unfold WN at h3 ⊢
      rw [List.map_cons, List.map_cons, h3]
theorem WN.cons {l : List Wd} {v : Int} {vs : List Int} (h : WN l (v :: vs)) : ∃ p l', l = (Lib.itoa v, p) :: l' ∧ WN l' vs := by
  cases l with
  | nil => cases h
  | cons w l =>
    unfold WN at h
    rw [List.map_cons, List.map_cons] at h
    injection h with h1 h2
    exact ⟨w.2, l, by rw [← h1], h2⟩
theorem WN.nil {l : List Wd} (h : WN l []) : l = [] := by
  cases l with
  | nil => rfl
  | cons w l => cases h
def Sm (v : Int) : Prop := -4611686018427387904 ≤ v ∧ v ≤ 4611686018427387904
theorem pn {lw : List Wd} {v lo hi : Int} {vs : List Int} (b : Option Int) (t : Int) (sh : List (List Int × List (List Int × Int))) (h : WN lw (v :: vs)) (hs : Sm v) (h0 : lo ≤ v) (h1 : v ≤ hi) :
    ∃ (p : Int) (l' : List Wd), pnum en ee lo hi ⟨lw, b, t, sh⟩ = .ok (v, p) ⟨l', b, t, sh⟩ ∧ WN l' vs := by
  obtain ⟨p, l', rfl, h2⟩ := h.cons
  exact ⟨_, l', pnum_cons l' b t sh (readW_small hs.1 hs.2) h0 h1, h2⟩
theorem pscope_read {n : Int} (b : Option Int) (t : Int) (sh : List (List Int × List (List Int × Int))) (hn : n ≤ 1000000) : ∀ (sc out : List Int) {lw : List Wd} {vs : List Int}, WN lw (sc ++ vs) → (∀ v ∈ sc, 0 ≤ v ∧ v < n) → (out ++ sc).Nodup →
    ∃ l', pscope en ee n sc.length out ⟨lw, b, t, sh⟩ = .ok (out ++ sc) ⟨l', b, t, sh⟩ ∧ WN l' vs := by
  intro sc
  induction sc with
  | nil => intro out lw vs h _ _; exact ⟨lw, by rw [List.append_nil]; rfl, h⟩
  | cons v sc ih =>
    intro out lw vs h hb hnd
    have hv := hb v (by simp)
    obtain ⟨p, l1, e1, h1⟩ := pn (en := en) (ee := ee) (lo := 0) (hi := n - 1) b t sh h ⟨by omega, by omega⟩ hv.1 (by omega)
    rw [show out ++ v :: sc = out ++ [v] ++ sc by simp] at hnd ⊢
    obtain ⟨l2, e2, h2⟩ := ih (out ++ [v]) h1 (fun u hu => hb u (by simp [hu])) hnd
    refine ⟨l2, ?_, h2⟩
    show pscope en ee n (sc.length + 1) out _ = _
    unfold pscope
    rw [e1, Res.bind_ok, if_neg ?_]
    · exact e2
    · intro hm
      have hd := (List.nodup_append.1 (List.nodup_append.1 hnd).1).2.2 v hm v (by simp)
      exact hd rfl
theorem ptup_read (b : Option Int) (t : Int) (sh : List (List Int × List (List Int × Int))) : ∀ (ks u out : List Int) {lw : List Wd} {vs : List Int}, WN lw (u ++ vs) → u.length = ks.length → (∀ (i : Nat) (v k : Int), u[i]? = some v → ks[i]? = some k → 0 ≤ v ∧ v < k) → (∀ k ∈ ks, k ≤ 1000000) →
    ∃ l', ptup en ee ks out ⟨lw, b, t, sh⟩ = .ok (out ++ u) ⟨l', b, t, sh⟩ ∧ WN l' vs := by
  intro ks
  induction ks with
  | nil =>
    intro u out lw vs h hl _ _
    obtain rfl := List.eq_nil_of_length_eq_zero hl
    exact ⟨lw, by rw [List.append_nil]; rfl, h⟩
  | cons k ks ih =>
    intro u out lw vs h hl hb hk
    cases u with
    | nil => cases hl
    | cons v u =>
      have hv := hb 0 v k rfl rfl
      have hkk := hk k (by simp)
      obtain ⟨p, l1, e1, h1⟩ := pn (en := en) (ee := ee) (lo := 0) (hi := k - 1) b t sh h ⟨by omega, by omega⟩ hv.1 (by omega)
      obtain ⟨l2, e2, h2⟩ := ih u (out ++ [v]) h1 (by simpa using hl) (fun i x y hx hy => hb (i + 1) x y (by simpa using hx) (by simpa using hy)) fun y hy => hk y (by simp [hy])
      refine ⟨l2, ?_, h2⟩
      unfold ptup
      rw [e1, Res.bind_ok]
      rw [show out ++ v :: u = out ++ [v] ++ u by simp]
      exact e2
def flatL (ls : List (List Int × Int)) : List Int := ls.flatMap fun l => l.1 ++ [l.2]
theorem flatL_cons (l : List Int × Int) (ls : List (List Int × Int)) : flatL (l :: ls) = l.1 ++ ([l.2] ++ flatL ls) := by unfold flatL; rw [List.flatMap_cons, List.append_assoc]
theorem flatL_snoc (ls : List (List Int × Int)) (l : List Int × Int) : flatL (ls ++ [l]) = flatL ls ++ (l.1 ++ [l.2]) := by unfold flatL; rw [List.flatMap_append]; simp
def LOk (sizes : List Int) (ls : List (List Int × Int)) : Prop := ∀ l ∈ ls, InS sizes l.1 ∧ 0 ≤ l.2 ∧ l.2 ≤ 4611686018427387904
theorem plines_read {sizes : List Int} (b : Option Int) (t : Int) (sh : List (List Int × List (List Int × Int))) (hk : ∀ k ∈ sizes, k ≤ 1000000) : ∀ (ls out : List (List Int × Int)) {lw : List Wd} {vs : List Int}, WN lw (flatL ls ++ vs) → LOk sizes ls → ((out ++ ls).map Prod.fst).Nodup →
    ∃ l', plines en ee sizes ls.length out ⟨lw, b, t, sh⟩ = .ok (out ++ ls) ⟨l', b, t, sh⟩ ∧ WN l' vs := by
  intro ls
  induction ls with
  | nil => intro out lw vs h _ _; exact ⟨lw, by rw [List.append_nil]; rfl, h⟩
  | cons x ls ih =>
    intro out lw vs h hb hnd
    obtain ⟨h0, h1, h2⟩ := hb x (by simp)
    rw [flatL_cons, List.append_assoc, List.append_assoc] at h
    obtain ⟨l1, e1, g1⟩ := ptup_read (en := en) (ee := ee) b t sh sizes x.1 [] h h0.1 h0.2 hk
    obtain ⟨p, l2, e2, g2⟩ := pn (en := en) (ee := ee) (lo := 0) (hi := far) b t sh g1 ⟨by omega, h2⟩ h1 h2
    rw [show out ++ x :: ls = out ++ [x] ++ ls by simp] at hnd ⊢
    obtain ⟨l3, e3, g3⟩ := ih (out ++ [x]) g2 (fun y hy => hb y (by simp [hy])) hnd
    refine ⟨l3, ?_, g3⟩
    show plines en ee sizes (ls.length + 1) out _ = _
    unfold plines
    rw [e1, Res.bind_ok, e2, Res.bind_ok, List.nil_append, if_neg ?_]
    · exact e3
    · intro hm
      rw [List.map_append, List.map_append] at hnd
      exact (List.nodup_append.1 (List.nodup_append.1 hnd).1).2.2 x.1 hm x.1 (by simp) rfl
theorem psizes_read {most : Int} (b : Option Int) (t : Int) (sh : List (List Int × List (List Int × Int))) (hm : most ≤ 1000000) : ∀ (ks out : List Int) {lw : List Wd} {vs : List Int}, WN lw (ks ++ vs) → (∀ k ∈ ks, 1 ≤ k ∧ k ≤ most ∧ k ≤ 32) →
    ∃ l', psizes en ee most ks.length out ⟨lw, b, t, sh⟩ = .ok (out ++ ks) ⟨l', b, t, sh⟩ ∧ WN l' vs := by
  intro ks
  induction ks with
  | nil => intro out lw vs h _; exact ⟨lw, by rw [List.append_nil]; rfl, h⟩
  | cons k ks ih =>
    intro out lw vs h hb
    obtain ⟨h0, h1, h2⟩ := hb k (by simp)
    obtain ⟨p, l1, e1, g1⟩ := pn (en := en) (ee := ee) (lo := 1) (hi := most) b t sh h ⟨by omega, by omega⟩ h0 h1
    obtain ⟨l2, e2, g2⟩ := ih (out ++ [k]) g1 fun y hy => hb y (by simp [hy])
    refine ⟨l2, ?_, g2⟩
    show psizes en ee most (ks.length + 1) out _ = _
    unfold psizes
    rw [e1, Res.bind_ok, plarge_no _ (by simp; omega), show out ++ k :: ks = out ++ [k] ++ ks by simp]
    exact e2
def szOf (all sc : List Int) : List Int := sc.map fun v => all.getD v.toNat 0
theorem pfun_own {all sc : List Int} {o t a : Int} {ls : List (List Int × Int)} (sh : List (List Int × List (List Int × Int))) {lw : List Wd} {vs : List Int}
    (h : WN lw (a :: (sc ++ (o :: (ls.length : Int) :: (flatL ls ++ vs))))) (ha : a.natAbs = sc.length) (h6 : sc.length ≤ 6) (hall : all.length ≤ 1000000) (hsc : ∀ v ∈ sc, 0 ≤ v ∧ v < all.length) (hnd : sc.Nodup) (hg : great (szOf all sc) = false) (hsz : ∀ k ∈ szOf all sc, k ≤ 1000000)
    (ho : 0 ≤ o ∧ o ≤ 4611686018427387904) (hl : LOk (szOf all sc) ls) (hd : (ls.map Prod.fst).Nodup) (ht : 0 ≤ t) (hm : t + ls.length ≤ 16384) :
    ∃ l', pfun en ee all ⟨lw, none, t, sh⟩ = .ok ⟨sc, szOf all sc, o, ls⟩ ⟨l', none, t + ls.length, if a < 0 then sh ++ [(szOf all sc, ls)] else sh⟩ ∧ WN l' vs := by
  obtain ⟨p, l1, e1, g1⟩ := pn (en := en) (ee := ee) (lo := -far) (hi := far) none t sh h (show Sm a by unfold Sm; omega) (by unfold far; omega) (by unfold far; omega)
  obtain ⟨l2, e2, g2⟩ := pscope_read (en := en) (ee := ee) (n := all.length) none t sh (by omega) sc [] g1 hsc (by simpa using hnd)
  obtain ⟨q, l3, e3, g3⟩ := pn (en := en) (ee := ee) (lo := 0) (hi := far) none t sh g2 ⟨by omega, ho.2⟩ ho.1 ho.2
  obtain ⟨r, l4, e4, g4⟩ := pn (en := en) (ee := ee) (lo := -far) (hi := far) none t sh g3 ⟨by omega, by omega⟩ (by unfold far; omega) (by unfold far; omega)
  obtain ⟨l5, e5, g5⟩ := plines_read (en := en) (ee := ee) (sizes := szOf all sc) none (t + ls.length) sh hsz ls [] g4 hl (by simpa using hd)
  refine ⟨l5, ?_, g5⟩
  unfold pfun
  rw [e1, Res.bind_ok]
  dsimp only
  rw [ha, e2, Res.bind_ok, List.nil_append]
  rw [plarge_no _ (by
    show (decide ((sc.length : Int) > 6) || great (szOf all sc)) = false
    rw [hg]; simp; omega), e3, Res.bind_ok]
  unfold pall
  rw [e4, Res.bind_ok]
  dsimp only
  rw [if_neg (by omega), show min (t + (ls.length : Int)) far = t + ls.length by unfold far; omega, plarge_no _ (by simp; omega), show ((ls.length : Int).toNat) = ls.length by omega]
  show (Res.bind (plines en ee (szOf all sc) ls.length [] ⟨l4, none, t + ls.length, sh⟩) _) = _
  rw [e5, Res.bind_ok, List.nil_append]
  by_cases hn : a < 0
  · rw [if_pos hn, if_pos hn]; rfl
  · rw [if_neg hn, if_neg hn]; rfl
theorem pfun_ref {all sc : List Int} {o t a n : Int} {ls : List (List Int × Int)} (sh : List (List Int × List (List Int × Int))) {lw : List Wd} {vs : List Int}
    (h : WN lw (a :: (sc ++ (o :: n :: vs)))) (ha : a.natAbs = sc.length) (h6 : sc.length ≤ 6) (hall : all.length ≤ 1000000) (hsc : ∀ v ∈ sc, 0 ≤ v ∧ v < all.length) (hnd : sc.Nodup) (hg : great (szOf all sc) = false)
    (ho : 0 ≤ o ∧ o ≤ 4611686018427387904) (hn : n < 0) (hn2 : -1000000 ≤ n) (hsh : sh[(-n - 1).toNat]? = some (szOf all sc, ls)) :
    ∃ l', pfun en ee all ⟨lw, none, t, sh⟩ = .ok ⟨sc, szOf all sc, o, ls⟩ ⟨l', none, t, if a < 0 then sh ++ [(szOf all sc, ls)] else sh⟩ ∧ WN l' vs := by
  obtain ⟨p, l1, e1, g1⟩ := pn (en := en) (ee := ee) (lo := -far) (hi := far) none t sh h (show Sm a by unfold Sm; omega) (by unfold far; omega) (by unfold far; omega)
  obtain ⟨l2, e2, g2⟩ := pscope_read (en := en) (ee := ee) (n := all.length) none t sh (by omega) sc [] g1 hsc (by simpa using hnd)
  obtain ⟨q, l3, e3, g3⟩ := pn (en := en) (ee := ee) (lo := 0) (hi := far) none t sh g2 ⟨by omega, ho.2⟩ ho.1 ho.2
  obtain ⟨r, l4, e4, g4⟩ := pn (en := en) (ee := ee) (lo := -far) (hi := far) none t sh g3 ⟨by omega, by omega⟩ (by unfold far; omega) (by unfold far; omega)
  refine ⟨l4, ?_, g4⟩
  unfold pfun
  rw [e1, Res.bind_ok]
  dsimp only
  rw [ha, e2, Res.bind_ok, List.nil_append]
  rw [plarge_no _ (by
    show (decide ((sc.length : Int) > 6) || great (szOf all sc)) = false
    rw [hg]; simp; omega), e3, Res.bind_ok]
  unfold pall
  rw [e4, Res.bind_ok]
  dsimp only
  rw [if_pos hn, hsh]
  dsimp only
  rw [if_pos (show szOf all sc = sc.map fun v => all.getD v.toNat 0 from rfl), Res.bind_ok]
  by_cases hn : a < 0
  · rw [if_pos hn, if_pos hn]; rfl
  · rw [if_neg hn, if_neg hn]; rfl
end Go.Proofs.YtafdijfbgkcnnaaDoor.wcp
/- Lines shared, or told twice: the same file. Plain. -/
namespace Go.Proofs.YtafdijfbgkcnnaaDoor.wcp
open Go Go.Proofs.YtafdijfbgkcnnaaDoor.scn
set_option linter.unusedVariables false
variable {en ee : Int}
theorem pfun_wrong {all sc : List Int} {o t a n : Int} (sh : List (List Int × List (List Int × Int))) {lw : List Wd} {vs : List Int}
    (h : WN lw (a :: (sc ++ (o :: n :: vs)))) (ha : a.natAbs = sc.length) (h6 : sc.length ≤ 6) (hall : all.length ≤ 1000000) (hsc : ∀ v ∈ sc, 0 ≤ v ∧ v < all.length) (hnd : sc.Nodup) (hg : great (szOf all sc) = false)
    (ho : 0 ≤ o ∧ o ≤ 4611686018427387904) (hn : n < 0) (hn2 : -1000000 ≤ n) (hsh : ∀ x, sh[(-n - 1).toNat]? = some x → x.1 ≠ szOf all sc) :
    ∃ x, pfun en ee all ⟨lw, none, t, sh⟩ = .bad 4 x := by
  obtain ⟨p, l1, e1, g1⟩ := pn (en := en) (ee := ee) (lo := -far) (hi := far) none t sh h (show Sm a by unfold Sm; omega) (by unfold far; omega) (by unfold far; omega)
  obtain ⟨l2, e2, g2⟩ := pscope_read (en := en) (ee := ee) (n := all.length) none t sh (by omega) sc [] g1 hsc (by simpa using hnd)
  obtain ⟨q, l3, e3, g3⟩ := pn (en := en) (ee := ee) (lo := 0) (hi := far) none t sh g2 ⟨by omega, ho.2⟩ ho.1 ho.2
  obtain ⟨r, l4, e4, g4⟩ := pn (en := en) (ee := ee) (lo := -far) (hi := far) none t sh g3 ⟨by omega, by omega⟩ (by unfold far; omega) (by unfold far; omega)
  refine ⟨r, ?_⟩
  unfold pfun
  rw [e1, Res.bind_ok]
  dsimp only
  rw [ha, e2, Res.bind_ok, List.nil_append]
  rw [plarge_no _ (by
    show (decide ((sc.length : Int) > 6) || great (szOf all sc)) = false
    rw [hg]; simp; omega), e3, Res.bind_ok]
  unfold pall
  rw [e4, Res.bind_ok]
  dsimp only
  rw [if_pos hn]
  cases hx : sh[(-n - 1).toNat]? with
  | none => rfl
  | some x =>
    dsimp only
    rw [if_neg (show ¬ x.1 = sc.map fun v => all.getD v.toNat 0 from hsh x hx)]
    rfl
/-- the head of these texts -/
def shH : List Int := [4, 3, 2, 1000, 2, 3, 2, 3]
theorem sh_head {p : Nat} {lw : List Wd} {vs : List Int} (h : WN lw (shH ++ vs)) :
    ∃ l', pbody en ee ⟨([115], p) :: lw, none, 0, []⟩ = ((pfuns en ee [2, 3, 2, 3] 2 [] ⟨l', none, 0, []⟩).bind fun fs s => .ok ⟨[115], 1000, [2, 3, 2, 3], fs⟩ s) ∧ WN l' vs := by
  obtain ⟨p1, l1, rfl, h1⟩ := WN.cons h
  obtain ⟨p2, l2, rfl, h2⟩ := WN.cons h1
  obtain ⟨p3, l3, rfl, h3⟩ := WN.cons h2
  obtain ⟨p4, l4, rfl, h4⟩ := WN.cons h3
  obtain ⟨l5, e5, h5⟩ := psizes_read (en := en) (ee := ee) (most := 3) none 0 [] (by omega) [2, 3, 2, 3] [] h4 (by decide)
  refine ⟨l5, ?_, h5⟩
  rw [pbody_head l4 (by decide) (readW_small (n := 4) (by decide) (by decide)) (readW_small (n := 3) (by decide) (by decide)) (readW_small (n := 2) (by decide) (by decide)) (readW_small (n := 1000) (by decide) (by decide)) (by decide) (by decide) (by decide) (by decide),
    plarge_no (is := decide ((4 : Int) > 64)) _ (by decide), plarge_no (is := decide ((2 : Int) > 256)) _ (by decide), plarge_no (is := decide ((1000 : Int) > 2147483648)) _ (by decide)]
  show (psizes en ee 3 4 [] _).bind _ = _
  rw [show (4 : Nat) = ([2, 3, 2, 3] : List Int).length from rfl, e5, Res.bind_ok]
  rfl
/-- the file -/
def shF (ls : List (List Int × Int)) (sc : List Int) (o : Int) : Fil := ⟨[115], 1000, [2, 3, 2, 3], [⟨[0, 1], [2, 3], 0, ls⟩, ⟨sc, [2, 3], o, ls⟩]⟩
theorem great23 : great [2, 3] = false := by decide
theorem sz01 : szOf [2, 3, 2, 3] [0, 1] = [2, 3] := by decide
def ScOk (sc : List Int) : Prop := sc = [2, 3] ∨ sc = [0, 3]
theorem ScOk.sz {sc : List Int} (h : ScOk sc) : szOf [2, 3, 2, 3] sc = [2, 3] ∧ sc.length = 2 ∧ (∀ v ∈ sc, 0 ≤ v ∧ v < (([2, 3, 2, 3] : List Int).length : Int)) ∧ sc.Nodup := by
  rcases h with rfl | rfl
  · exact ⟨by decide, rfl, by decide, by decide⟩
  · exact ⟨by decide, rfl, by decide, by decide⟩
def numsA (ls : List (List Int × Int)) (sc : List Int) (o : Int) : List Int := shH ++ (-2 :: ([0, 1] ++ (0 :: (ls.length : Int) :: (flatL ls ++ (2 :: (sc ++ (o :: -1 :: [])))))))
def numsB (ls : List (List Int × Int)) (sc : List Int) (o : Int) : List Int := shH ++ (2 :: ([0, 1] ++ (0 :: (ls.length : Int) :: (flatL ls ++ (2 :: (sc ++ (o :: (ls.length : Int) :: (flatL ls ++ []))))))))
section
variable {ls : List (List Int × Int)} {sc : List Int} {o : Int} (hl : LOk [2, 3] ls) (hd : (ls.map Prod.fst).Nodup) (h6 : ls.length ≤ 6) (hsc : ScOk sc) (ho : 0 ≤ o ∧ o ≤ 255)
include hl hd h6 hsc ho
theorem shared_bodyA {p : Nat} {lw : List Wd} (h : WN lw (numsA ls sc o)) : ∃ s, pbody en ee ⟨([115], p) :: lw, none, 0, []⟩ = .ok (shF ls sc o) s ∧ s.l = [] ∧ s.big = none := by
  obtain ⟨z1, z2, z3, z4⟩ := hsc.sz
  obtain ⟨l1, e1, g1⟩ := sh_head (en := en) (ee := ee) (p := p) h
  obtain ⟨l2, e2, g2⟩ := pfun_own (en := en) (ee := ee) (all := [2, 3, 2, 3]) (sc := [0, 1]) (t := 0) [] g1 rfl (by decide) (by decide) (by decide) (by decide) (by decide) (by decide) (by decide) (by rw [sz01]; exact hl) hd (by omega) (by omega)
  obtain ⟨l3, e3, g3⟩ := pfun_ref (en := en) (ee := ee) (all := [2, 3, 2, 3]) (sc := sc) (t := 0 + ls.length) (ls := ls) [([2, 3], ls)] g2 (by rw [z2]; rfl) (by omega) (by decide) z3 z4 (by rw [z1]; decide) (by omega) (by decide) (by decide) (by rw [z1]; rfl)
  obtain rfl := g3.nil
  refine ⟨⟨[], none, 0 + ls.length, [([2, 3], ls)]⟩, ?_, rfl, rfl⟩
  rw [e1]
  show Res.bind (Res.bind (pfun en ee [2, 3, 2, 3] ⟨l1, none, 0, []⟩) fun f s => pfuns en ee [2, 3, 2, 3] 1 ([] ++ [f]) s) _ = _
  rw [e2, Res.bind_ok, if_pos (by decide), sz01]
  show Res.bind (Res.bind (pfun en ee [2, 3, 2, 3] ⟨l2, none, 0 + ls.length, [([2, 3], ls)]⟩) fun f s => pfuns en ee [2, 3, 2, 3] 0 ([] ++ [⟨[0, 1], [2, 3], 0, ls⟩] ++ [f]) s) _ = _
  rw [e3, Res.bind_ok, if_neg (by decide), z1]
  rfl
theorem shared_bodyB {p : Nat} {lw : List Wd} (h : WN lw (numsB ls sc o)) : ∃ s, pbody en ee ⟨([115], p) :: lw, none, 0, []⟩ = .ok (shF ls sc o) s ∧ s.l = [] ∧ s.big = none := by
  obtain ⟨z1, z2, z3, z4⟩ := hsc.sz
  obtain ⟨l1, e1, g1⟩ := sh_head (en := en) (ee := ee) (p := p) h
  obtain ⟨l2, e2, g2⟩ := pfun_own (en := en) (ee := ee) (all := [2, 3, 2, 3]) (sc := [0, 1]) (t := 0) [] g1 rfl (by decide) (by decide) (by decide) (by decide) (by decide) (by decide) (by decide) (by rw [sz01]; exact hl) hd (by omega) (by omega)
  obtain ⟨l3, e3, g3⟩ := pfun_own (en := en) (ee := ee) (all := [2, 3, 2, 3]) (sc := sc) (t := 0 + ls.length) [] g2 (by rw [z2]; rfl) (by omega) (by decide) z3 z4 (by rw [z1]; decide) (by rw [z1]; decide) (by omega) (by rw [z1]; exact hl) hd (by omega) (by omega)
  obtain rfl := g3.nil
  refine ⟨⟨[], none, 0 + ls.length + ls.length, []⟩, ?_, rfl, rfl⟩
  rw [e1]
  show Res.bind (Res.bind (pfun en ee [2, 3, 2, 3] ⟨l1, none, 0, []⟩) fun f s => pfuns en ee [2, 3, 2, 3] 1 ([] ++ [f]) s) _ = _
  rw [e2, Res.bind_ok, if_neg (by decide), sz01]
  show Res.bind (Res.bind (pfun en ee [2, 3, 2, 3] ⟨l2, none, 0 + ls.length, []⟩) fun f s => pfuns en ee [2, 3, 2, 3] 0 ([] ++ [⟨[0, 1], [2, 3], 0, ls⟩] ++ [f]) s) _ = _
  rw [e3, Res.bind_ok, if_neg (by decide), z1]
  rfl
end
/-- a text of a name and numbers has words -/
theorem text_told (vs : List Int) : ∃ lw, scn.Told ([115] ++ numT vs) (([115], 0) :: lw) (-1) ∧ WN lw vs := by
  obtain ⟨lw, h1, h2⟩ := Mid.nums vs (mid_one (v := [115]) (by decide) (by decide))
  exact ⟨lw, h1.told, h2⟩
theorem pread_file {l : List Wd} {f : Fil} {s : Ps} {en : Int} (h : pbody en 4 ⟨l, none, 0, []⟩ = .ok f s) (h1 : s.l = []) (h2 : s.big = none) : pread en 4 l = .file f := ((pread_end h).2 h1).2 rfl |>.2 h2
theorem shared_A {ls : List (List Int × Int)} {sc : List Int} {o : Int} (hl : LOk [2, 3] ls) (hd : (ls.map Prod.fst).Nodup) (h6 : ls.length ≤ 6) (hsc : ScOk sc) (ho : 0 ≤ o ∧ o ≤ 255) : ∃ l, scn.Told ([115] ++ numT (numsA ls sc o)) l (-1) ∧ pread (enOf ([115] ++ numT (numsA ls sc o)) (-1)) (eeOf (-1)) l = .file (shF ls sc o) := by
  obtain ⟨lw, h1, h2⟩ := text_told (numsA ls sc o)
  obtain ⟨s, h3, h4, h5⟩ := shared_bodyA (en := enOf ([115] ++ numT (numsA ls sc o)) (-1)) (ee := 4) (p := 0) hl hd h6 hsc ho h2
  exact ⟨_, h1, pread_file h3 h4 h5⟩
theorem shared_B {ls : List (List Int × Int)} {sc : List Int} {o : Int} (hl : LOk [2, 3] ls) (hd : (ls.map Prod.fst).Nodup) (h6 : ls.length ≤ 6) (hsc : ScOk sc) (ho : 0 ≤ o ∧ o ≤ 255) : ∃ l, scn.Told ([115] ++ numT (numsB ls sc o)) l (-1) ∧ pread (enOf ([115] ++ numT (numsB ls sc o)) (-1)) (eeOf (-1)) l = .file (shF ls sc o) := by
  obtain ⟨lw, h1, h2⟩ := text_told (numsB ls sc o)
  obtain ⟨s, h3, h4, h5⟩ := shared_bodyB (en := enOf ([115] ++ numT (numsB ls sc o)) (-1)) (ee := 4) (p := 0) hl hd h6 hsc ho h2
  exact ⟨_, h1, pread_file h3 h4 h5⟩
/-- the two that are wrong -/
theorem shared_bad {sc : List Int} {n : Int} (hsc : (sc = [1, 0] ∧ n = -1) ∨ (sc = [0, 1] ∧ n = -2)) : ∃ l x, scn.Told ([115] ++ numT (shH ++ (-2 :: ([0, 1] ++ (0 :: 0 :: (2 :: (sc ++ (0 :: n :: [])))))))) l (-1) ∧ pread (enOf ([115] ++ numT (shH ++ (-2 :: ([0, 1] ++ (0 :: 0 :: (2 :: (sc ++ (0 :: n :: [])))))))) (-1)) (eeOf (-1)) l = .err 4 x := by
  obtain ⟨lw, h1, h2⟩ := text_told (shH ++ (-2 :: ([0, 1] ++ (0 :: 0 :: (2 :: (sc ++ (0 :: n :: [])))))))
  obtain ⟨en, hen⟩ : ∃ en, enOf ([115] ++ numT (shH ++ (-2 :: ([0, 1] ++ (0 :: 0 :: (2 :: (sc ++ (0 :: n :: [])))))))) (-1) = en := ⟨_, rfl⟩
  rw [hen]
  obtain ⟨l1, e1, g1⟩ := sh_head (en := en) (ee := 4) (p := 0) h2
  obtain ⟨l2, e2, g2⟩ := pfun_own (en := en) (ee := 4) (all := [2, 3, 2, 3]) (sc := [0, 1]) (ls := []) (t := 0) [] g1 rfl (by decide) (by decide) (by decide) (by decide) (by decide) (by decide) (by decide) (fun l hl => by cases hl) (by decide) (by omega) (by decide)
  have hz : szOf [2, 3, 2, 3] sc = (if sc = [1, 0] then [3, 2] else [2, 3]) ∧ sc.length = 2 ∧ (∀ v ∈ sc, 0 ≤ v ∧ v < (([2, 3, 2, 3] : List Int).length : Int)) ∧ sc.Nodup := by
    rcases hsc with ⟨rfl, _⟩ | ⟨rfl, _⟩
    · exact ⟨by decide, rfl, by decide, by decide⟩
    · exact ⟨by decide, rfl, by decide, by decide⟩
  obtain ⟨z1, z2, z3, z4⟩ := hz
  obtain ⟨x, e3⟩ := pfun_wrong (en := en) (ee := 4) (all := [2, 3, 2, 3]) (sc := sc) (t := 0 + (([] : List (List Int × Int)).length : Int)) [([2, 3], [])] g2 (by rw [z2]; rfl) (by omega) (by decide) z3 z4 (by rw [z1]; split <;> decide) (by decide) (by rcases hsc with ⟨_, rfl⟩ | ⟨_, rfl⟩ <;> decide) (by rcases hsc with ⟨_, rfl⟩ | ⟨_, rfl⟩ <;> decide) (fun x hx => by
    rcases hsc with ⟨rfl, rfl⟩ | ⟨rfl, rfl⟩
    · rw [z1]
      have : x = ([2, 3], []) := by simpa using hx.symm
      rw [this]; decide
    · have : (none : Option (List Int × List (List Int × Int))) = some x := hx
      cases this)
  refine ⟨_, x, h1, pread_bad (ee := 4) ?_⟩
  rw [e1]
  show Res.bind (Res.bind (pfun en 4 [2, 3, 2, 3] ⟨l1, none, 0, []⟩) fun f s => pfuns en 4 [2, 3, 2, 3] 1 ([] ++ [f]) s) _ = _
  rw [e2, Res.bind_ok, if_pos (by decide), sz01]
  show Res.bind (Res.bind (pfun en 4 [2, 3, 2, 3] ⟨l2, none, 0 + (([] : List (List Int × Int)).length : Int), [([2, 3], [])]⟩) _) _ = _
  rw [e3]
  rfl
end Go.Proofs.YtafdijfbgkcnnaaDoor.wcp
/- The texts of WcspShared, byte by byte: plain. -/
namespace Go.Proofs.YtafdijfbgkcnnaaDoor.wcp
open Go Go.Proofs.YtafdijfbgkcnnaaDoor.scn
theorem it_small {v : Nat} (h : v < 10) : Lib.itoa (v : Int) = [UInt8.ofNat (48 + v)] := by rw [Lib.itoa_nonneg]; exact dd_small h
theorem it_1000 : Lib.itoa 1000 = [49, 48, 48, 48] := by
  have := Lib.itoa_nonneg 1000
  rw [show ((1000 : Nat) : Int) = 1000 from rfl] at this
  rw [this, dd_more (by decide), dd_more (by decide), dd_more (by decide), dd_small (by decide)]
  decide
theorem it_neg1 : Lib.itoa (-1) = [45, 49] := by
  rw [show (-1 : Int) = -((1 : Nat) : Int) from rfl, Lib.itoa_neg 1 (by decide), dd_small (by decide)]
  decide
theorem it_neg2 : Lib.itoa (-2) = [45, 50] := by
  rw [show (-2 : Int) = -((2 : Nat) : Int) from rfl, Lib.itoa_neg 2 (by decide), dd_small (by decide)]
  decide
theorem it0 : Lib.itoa 0 = [48] := it_small (v := 0) (by decide)
theorem it1 : Lib.itoa 1 = [49] := it_small (v := 1) (by decide)
theorem it2 : Lib.itoa 2 = [50] := it_small (v := 2) (by decide)
theorem it3 : Lib.itoa 3 = [51] := it_small (v := 3) (by decide)
theorem it4 : Lib.itoa 4 = [52] := it_small (v := 4) (by decide)
theorem textH : [115] ++ numT shH = [115, 32, 52, 32, 51, 32, 50, 32, 49, 48, 48, 48, 32, 50, 32, 51, 32, 50, 32, 51] := by
  simp only [numT, shH, List.flatMap_cons, List.flatMap_nil, it2, it3, it4, it_1000]
  rfl
def scS (fl : Bool) : List UInt8 := if fl then [48, 32, 51] else [50, 32, 51]
def scI (fl : Bool) : List Int := if fl then [0, 3] else [2, 3]
theorem scOk (fl : Bool) : ScOk (scI fl) := by cases fl <;> simp [scI, ScOk]
theorem sc_text (fl : Bool) : numT (scI fl) = 32 :: scS fl := by
  cases fl
  · show numT [2, 3] = _
    simp only [numT, List.flatMap_cons, List.flatMap_nil, it2, it3]; rfl
  · show numT [0, 3] = _
    simp only [numT, List.flatMap_cons, List.flatMap_nil, it0, it3]; rfl
theorem textA (ls : List (List Int × Int)) (fl : Bool) (o : Int) :
    (((((((([115, 32, 52, 32, 51, 32, 50, 32, 49, 48, 48, 48, 32, 50, 32, 51, 32, 50, 32, 51, 32] ++ [45, 50, 32, 48, 32, 49, 32, 48, 32]) ++ Lib.itoa (ls.length : Int)) ++ numT (flatL ls)) ++ [32, 50, 32]) ++ scS fl) ++ [32]) ++ Lib.itoa o) ++ [32, 45, 49]) = [115] ++ numT (numsA ls (scI fl) o) := by
  unfold numsA
  rw [numT_append, ← List.append_assoc, textH]
  simp only [numT_append, numT_cons, sc_text, it_neg2, it0, it1, it2, it_neg1, show numT [] = [] from rfl]
  simp
theorem textB (ls : List (List Int × Int)) (fl : Bool) (o : Int) :
    ((((((((((([115, 32, 52, 32, 51, 32, 50, 32, 49, 48, 48, 48, 32, 50, 32, 51, 32, 50, 32, 51, 32] ++ [50, 32, 48, 32, 49, 32, 48, 32]) ++ Lib.itoa (ls.length : Int)) ++ numT (flatL ls)) ++ [32, 50, 32]) ++ scS fl) ++ [32]) ++ Lib.itoa o) ++ [32]) ++ Lib.itoa (ls.length : Int)) ++ numT (flatL ls))) = [115] ++ numT (numsB ls (scI fl) o) := by
  unfold numsB
  rw [numT_append, ← List.append_assoc, textH]
  simp only [numT_append, numT_cons, sc_text, it0, it1, it2, show numT [] = [] from rfl]
  simp
theorem textC : [115, 32, 52, 32, 51, 32, 50, 32, 49, 48, 48, 48, 32, 50, 32, 51, 32, 50, 32, 51, 32] ++ [45, 50, 32, 48, 32, 49, 32, 48, 32, 48, 32, 50, 32, 49, 32, 48, 32, 48, 32, 45, 49] = [115] ++ numT (shH ++ (-2 :: ([0, 1] ++ (0 :: 0 :: (2 :: ([1, 0] ++ (0 :: -1 :: []))))))) := by
  rw [numT_append, ← List.append_assoc, textH]
  simp only [numT, List.flatMap_cons, List.flatMap_nil, List.cons_append, List.nil_append, it0, it1, it2, it_neg1, it_neg2]
theorem textD : [115, 32, 52, 32, 51, 32, 50, 32, 49, 48, 48, 48, 32, 50, 32, 51, 32, 50, 32, 51, 32] ++ [45, 50, 32, 48, 32, 49, 32, 48, 32, 48, 32, 50, 32, 48, 32, 49, 32, 48, 32, 45, 50] = [115] ++ numT (shH ++ (-2 :: ([0, 1] ++ (0 :: 0 :: (2 :: ([0, 1] ++ (0 :: -2 :: []))))))) := by
  rw [numT_append, ← List.append_assoc, textH]
  simp only [numT, List.flatMap_cons, List.flatMap_nil, List.cons_append, List.nil_append, it0, it1, it2, it_neg1, it_neg2]
/-- six lines at most, no tuple twice -/
def all6 : List (List Int) := [[0, 0], [0, 1], [0, 2], [1, 0], [1, 1], [1, 2]]
theorem all6_ins : ∀ t ∈ all6, InS [2, 3] t := by
  intro t ht
  simp only [all6, List.mem_cons, List.not_mem_nil, or_false] at ht
  refine ⟨by rcases ht with rfl | rfl | rfl | rfl | rfl | rfl <;> rfl, fun i v k hv hk => ?_⟩
  match i, hk with
  | 0, hk => simp at hk; rcases ht with rfl | rfl | rfl | rfl | rfl | rfl <;> (simp at hv; omega)
  | 1, hk => simp at hk; rcases ht with rfl | rfl | rfl | rfl | rfl | rfl <;> (simp at hv; omega)
  | i + 2, hk => simp at hk
theorem all6_nodup : all6.Nodup := by decide
theorem sub_lok {ls : List (List Int × Int)} (h : (ls.map Prod.fst).Sublist all6) (hc : ∀ l ∈ ls, 0 ≤ l.2 ∧ l.2 ≤ 65535) : LOk [2, 3] ls ∧ (ls.map Prod.fst).Nodup ∧ ls.length ≤ 6 :=
  ⟨fun l hl => ⟨all6_ins _ (h.subset (List.mem_map.2 ⟨l, hl, rfl⟩)), (hc l hl).1, by have := (hc l hl).2; omega⟩, all6_nodup.sublist h, by have := h.length_le; simpa [all6] using this⟩
theorem all6_at {i : Nat} (hi : i < 6) : ∃ a b : Nat, all6[i]? = some [(a : Int), (b : Int)] ∧ a < 3 ∧ b < 3 := by
  have : i = 0 ∨ i = 1 ∨ i = 2 ∨ i = 3 ∨ i = 4 ∨ i = 5 := by omega
  rcases this with rfl | rfl | rfl | rfl | rfl | rfl
  · exact ⟨0, 0, rfl, by omega, by omega⟩
  · exact ⟨0, 1, rfl, by omega, by omega⟩
  · exact ⟨0, 2, rfl, by omega, by omega⟩
  · exact ⟨1, 0, rfl, by omega, by omega⟩
  · exact ⟨1, 1, rfl, by omega, by omega⟩
  · exact ⟨1, 2, rfl, by omega, by omega⟩
theorem all23 : shp.allI [2, 3] = all6 := by decide
end Go.Proofs.YtafdijfbgkcnnaaDoor.wcp
/- A file of two functions, unpacked; what leaves it alone. -/
namespace Go.Proofs.YtafdijfbgkcnnaaDoor.wcp
open Go Go.RowKit Go.ChangeShapes Go.WideShapes Go.ChangeAt Go.Maps Go.Proofs.YtafdijfbgkcnnaaDoor.words
set_option linter.unusedVariables false
def TwoV (w : World) (g : Nat) (F0 F1 : Nat → Prop) (r0 r1 : Raw) (K : Int) (q fc : Nat) (S0 S1 : Value) (t0 t1 : Nat) : Prop :=
  (∃ a b c, Blk w g 51 #[a, b, c, .slice (some ⟨q, 0, none⟩) 2 fc]) ∧ (w.ownsRow 0 55 2 (.slice (some ⟨q, 0, none⟩) 2 fc) 2 [S0, .pointer (some ⟨t0, 0, none⟩), S1, .pointer (some ⟨t1, 0, none⟩)] ∧ 2 ≤ fc) ∧
  RowI w 0 S0 r0.scope ∧ RowI w 0 S1 r1.scope ∧ TpV w t0 F0 r0.lines.length (tpOf r0 K r0.lines) ∧ TpV w t1 F1 r1.lines.length (tpOf r1 K r1.lines)
theorem add0 (q j : Nat) : (Addr.add ⟨q, 0, none⟩ j) = ⟨q, j, none⟩ := by unfold Addr.add; split <;> simp_all
theorem TwoV.cells {w : World} {g : Nat} {F0 F1 : Nat → Prop} {r0 r1 : Raw} {K : Int} {q fc : Nat} {S0 S1 : Value} {t0 t1 : Nat} (h : TwoV w g F0 F1 r0 r1 K q fc S0 S1 t0 t1) :
    w.cell? ⟨g, 3, none⟩ = some (.slice (some ⟨q, 0, none⟩) 2 fc) ∧ w.cell? ⟨q, 0, none⟩ = some S0 ∧ w.cell? ⟨q, 1, none⟩ = some (.pointer (some ⟨t0, 0, none⟩)) ∧ w.cell? ⟨q, 2, none⟩ = some S1 ∧ w.cell? ⟨q, 3, none⟩ = some (.pointer (some ⟨t1, 0, none⟩)) ∧ 2 ≤ fc := by
  obtain ⟨⟨a, b, c, hb⟩, ⟨ho, hf⟩, _⟩ := h
  obtain ⟨_, hr⟩ := Reads.of_own ho
  obtain ⟨ad, hA, _, hc⟩ := hr (by omega)
  obtain rfl := Option.some.inj hA
  have h0 := hc 0 _ rfl
  have h1 := hc 1 _ rfl
  have h2 := hc 2 _ rfl
  have h3 := hc 3 _ rfl
  rw [add0] at h0 h1 h2 h3
  exact ⟨(Blk.cell hb 3).trans rfl, h0, h1, h2, h3, hf⟩
theorem RowI.tch {w w' : World} {S : Nat → Prop} {v : Value} {xs : List Int} (h : RowI w 0 v xs) (ht : Tch w w' S) (hs : ∀ k, S k → ∀ cs, ¬ Blk w k 3 cs) : RowI w' 0 v xs := ⟨h.1, own_off h.2 ht fun k hk => .inr (hs k hk)⟩
theorem TwoV.tch {w w' : World} {g : Nat} {F0 F1 S : Nat → Prop} {r0 r1 : Raw} {K : Int} {q fc : Nat} {S0 S1 : Value} {t0 t1 : Nat} (h : TwoV w g F0 F1 r0 r1 K q fc S0 S1 t0 t1) (ht : Tch w w' S) (hs : ∀ k, S k → ∀ t cs, ¬ Blk w k t cs) (h0 : ∀ k, F0 k → ¬ S k) (h1 : ∀ k, F1 k → ¬ S k) : TwoV w' g F0 F1 r0 r1 K q fc S0 S1 t0 t1 := by
  obtain ⟨⟨a, b, c, hb⟩, ⟨ho, hf⟩, g0, g1, p0, p1⟩ := h
  exact ⟨⟨a, b, c, ht.blk hb fun hS => hs _ hS _ _ hb⟩, ⟨own_off ho ht fun k hk => .inr fun cs => hs k hk _ cs, hf⟩, g0.tch ht fun k hk cs => hs k hk _ cs, g1.tch ht fun k hk cs => hs k hk _ cs, p0.keep ht h0, p1.keep ht h1⟩
theorem TwoV.below {w w' : World} {g : Nat} {F0 F1 : Nat → Prop} {r0 r1 : Raw} {K : Int} {q fc : Nat} {S0 S1 : Value} {t0 t1 : Nat} (h : TwoV w g F0 F1 r0 r1 K q fc S0 S1 t0 t1) (hb : Below w.heap.size w w') : TwoV w' g F0 F1 r0 r1 K q fc S0 S1 t0 t1 :=
  h.tch (Tch.of_below hb (fun _ => False)) (fun _ h => h.elim) (fun _ _ h => h) (fun _ _ h => h)
/-- the first function turned: the rest of it stays -/
theorem TwoV.put {w w' : World} {g : Nat} {F0 F1 : Nat → Prop} {r0 r1 : Raw} {K : Int} {q fc : Nat} {S0 S1 : Value} {t0 t1 n : Nat} {T : TpH} (h : TwoV w g F0 F1 r0 r1 K q fc S0 S1 t0 t1) (ht : Tch w w' fun k => F0 k ∧ ∀ t cs, ¬ Blk w k t cs) (hd : ∀ k, F0 k → ¬ F1 k) :
    (∃ a b c, Blk w' g 51 #[a, b, c, .slice (some ⟨q, 0, none⟩) 2 fc]) ∧ w'.cell? ⟨g, 3, none⟩ = some (.slice (some ⟨q, 0, none⟩) 2 fc) ∧ w'.cell? ⟨q, 3, none⟩ = some (.pointer (some ⟨t1, 0, none⟩)) ∧ 2 ≤ fc ∧ TpV w' t1 F1 r1.lines.length (tpOf r1 K r1.lines) := by
  obtain ⟨⟨a, b, c, hb⟩, ⟨ho, hf⟩, g0, g1, p0, p1⟩ := h
  have hb' := ht.blk hb fun hS => hS.2 _ _ hb
  have ho' := own_off ho ht fun k hk => .inr fun cs => hk.2 _ cs
  obtain ⟨_, hr⟩ := Reads.of_own ho'
  obtain ⟨ad, hA, _, hc⟩ := hr (by omega)
  obtain rfl := Option.some.inj hA
  have h3 := hc 3 _ rfl
  rw [add0] at h3
  exact ⟨⟨a, b, c, hb'⟩, (Blk.cell hb' 3).trans rfl, h3, hf, p1.keep ht fun k hk hS => hd k hS.1 hk⟩
theorem two_of {w : World} {B g : Nat} {f : Fil} {r0 r1 : Raw} (h : FileV w B g f) (hf : f.funs = [r0, r1]) :
    ∃ F0 F1 q fc S0 S1 t0 t1, TwoV w g F0 F1 r0 r1 f.k q fc S0 S1 t0 t1 ∧ B ≤ g ∧ (∀ k, F0 k → B ≤ k ∧ k < w.heap.size) ∧ (∀ k, F1 k → B ≤ k ∧ k < w.heap.size) ∧ (∀ k, F0 k → ¬ F1 k) := by
  obtain ⟨hg, SA, sc, FA, fc, V, hV, hb, hs, hF, hfv, hpw⟩ := h
  rw [hf] at hV
  match V, hV, hb, hF, hfv, hpw with
  | [p0, p1], hV, hb, hF, hfv, hpw =>
    obtain ⟨v0, lo0, hi0, x0⟩ := p0
    obtain ⟨v1, lo1, hi1, x1⟩ := p1
    have e0 : x0 = r0 := by injection hV
    have e1 : x1 = r1 := by injection hV with _ h; injection h
    subst e0 e1
    obtain ⟨⟨u0, t0, rfl, hr0, ho0, hT0⟩, hB0⟩ := hfv (v0, lo0, hi0, x0) (by simp)
    obtain ⟨⟨u1, t1, rfl, hr1, ho1, hT1⟩, hB1⟩ := hfv (v1, lo1, hi1, x1) (by simp)
    have hl : hi0 ≤ lo1 := by
      have := (List.pairwise_cons.1 hpw).1 (.agg #[u1, .pointer (some ⟨t1, 0, none⟩)], lo1, hi1, x1) (by simp)
      exact this
    have hF0 : w.ownsRow 0 55 2 (.slice FA 2 fc) 2 [u0, .pointer (some ⟨t0, 0, none⟩), u1, .pointer (some ⟨t1, 0, none⟩)] := own_base hF (Nat.zero_le _)
    obtain ⟨q, rfl, _, _⟩ := own_some hF0 (by omega)
    have hcap : 2 ≤ fc := own_cap hF0
    exact ⟨_, _, q, fc, u0, u1, t0, t1, ⟨⟨_, _, _, hb⟩, ⟨hF0, hcap⟩, hr0, hr1, hT0.lim, hT1.lim⟩, hg, fun k hk => ⟨Nat.le_trans hB0 hk.1.1, hk.2⟩, fun k hk => ⟨Nat.le_trans hB1 hk.1.1, hk.2⟩, fun k h0 h1 => by have := h0.1.2; have := h1.1.1; dsimp only at *; omega⟩
end Go.Proofs.YtafdijfbgkcnnaaDoor.wcp
