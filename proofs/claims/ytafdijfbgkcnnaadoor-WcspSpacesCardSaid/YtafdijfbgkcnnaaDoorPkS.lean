/- PkS: TellQ, ScMid, Places, Fields, SpacesP, FileOk, AppStr, SpRows, one behind the other. -/
import Derived.Test.YtafdijfbgkcnnaaDoorAwk
import Derived.Test.YtafdijfbgkcnnaaDoorScJoin
import Derived.Test.YtafdijfbgkcnnaaDoorScDec
import Derived.Test.YtafdijfbgkcnnaaDoorScLaw
import Derived.Test.YtafdijfbgkcnnaaDoorRight
import Derived.Test.YtafdijfbgkcnnaaDoorWords
import Derived.Lib.AppendStr
import Derived.Test.YtafdijfbgkcnnaaDoorRdRows
/- Every text has words; more behind a blank changes none of them: plain. -/
namespace Go.Proofs.YtafdijfbgkcnnaaDoor.wcp
open Go Go.Proofs.YtafdijfbgkcnnaaDoor.scn
set_option linter.unusedVariables false
theorem skip_total (bs : List UInt8) : ∀ (d a : Nat), bs.length - a ≤ d → a ≤ bs.length → ∃ i, Skip bs a i := by
  intro d
  induction d with
  | zero => intro a h1 h2; exact ⟨a, Nat.le_refl _, h2, fun j h3 h4 => by omega, fun h => by omega⟩
  | succ d ih =>
    intro a h1 h2
    by_cases h : a < bs.length ∧ isB (at_ bs a) = true
    · obtain ⟨i, h3, h4, h5, h6⟩ := ih (a + 1) (by omega) (by omega)
      refine ⟨i, by omega, h4, fun j g1 g2 => ?_, h6⟩
      rcases Nat.lt_or_eq_of_le g1 with g | g
      · exact h5 j (by omega) g2
      · rw [← g]; exact h.2
    · exact ⟨a, Nat.le_refl _, h2, fun j h3 h4 => by omega, fun hl => by
        cases hb : isB (at_ bs a) with
        | false => rfl
        | true => exact absurd ⟨hl, hb⟩ h⟩
theorem ins_total (bs : List UInt8) : ∀ (d a : Nat), bs.length - a ≤ d → a ≤ bs.length → ∃ i, Ins bs a i := by
  intro d
  induction d with
  | zero => intro a h1 h2; exact ⟨a, Nat.le_refl _, h2, fun j h3 h4 => by omega, fun h => by omega⟩
  | succ d ih =>
    intro a h1 h2
    by_cases h : a < bs.length ∧ isIn (at_ bs a) = true
    · obtain ⟨i, h3, h4, h5, h6⟩ := ih (a + 1) (by omega) (by omega)
      refine ⟨i, by omega, h4, fun j g1 g2 => ?_, h6⟩
      rcases Nat.lt_or_eq_of_le g1 with g | g
      · exact h5 j (by omega) g2
      · rw [← g]; exact h.2
    · exact ⟨a, Nat.le_refl _, h2, fun j h3 h4 => by omega, fun hl => by
        cases hb : isIn (at_ bs a) with
        | false => rfl
        | true => exact absurd ⟨hl, hb⟩ h⟩
theorem next_total (bs : List UInt8) (a : Nat) (ha : a ≤ bs.length) : ∃ r, scn.Next bs a r := by
  obtain ⟨i, hi⟩ := skip_total bs _ a (Nat.le_refl _) ha
  obtain ⟨j, hj⟩ := ins_total bs _ i (Nat.le_refl _) hi.len
  by_cases hw : Wrong bs j
  · exact ⟨.bad j, i, j, hi, hj, .inl ⟨hw, rfl⟩⟩
  · rcases Nat.lt_or_eq_of_le hj.le with h | h
    · exact ⟨.word i j, i, j, hi, hj, .inr (.inr ⟨hw, h, rfl⟩)⟩
    · exact ⟨.none, i, j, hi, hj, .inr (.inl ⟨hw, h, rfl⟩)⟩
def EndAt (bs : List UInt8) (z : Nat) (wb : Int) : Prop := (wb = -1 ∧ scn.Next bs z .none) ∨ ∃ b : Nat, wb = b ∧ scn.Next bs z (.bad b)
theorem chain_total (bs : List UInt8) : ∀ (d a : Nat), bs.length - a ≤ d → a ≤ bs.length → ∃ l z wb, Chain bs a l z ∧ EndAt bs z wb := by
  intro d
  induction d with
  | zero =>
    intro a h1 h2
    obtain ⟨r, hr⟩ := next_total bs a h2
    cases r with
    | bad b => exact ⟨[], a, b, .nil a, .inr ⟨b, rfl, hr⟩⟩
    | none => exact ⟨[], a, -1, .nil a, .inl ⟨rfl, hr⟩⟩
    | word i j =>
      have hw := hr.word_at
      have := hw.1.le; have := hw.2.1.len; have := hw.2.2.2
      omega
  | succ d ih =>
    intro a h1 h2
    obtain ⟨r, hr⟩ := next_total bs a h2
    cases r with
    | bad b => exact ⟨[], a, b, .nil a, .inr ⟨b, rfl, hr⟩⟩
    | none => exact ⟨[], a, -1, .nil a, .inl ⟨rfl, hr⟩⟩
    | word i j =>
      have hw := hr.word_at
      have := hw.1.le; have := hw.2.1.len; have := hw.2.2.2
      obtain ⟨l, z, wb, hc, he⟩ := ih j (by omega) (by omega)
      exact ⟨_, z, wb, .cons hr hc, he⟩
theorem told_total (bs : List UInt8) : ∃ l wb, scn.Told bs l wb := by
  obtain ⟨l, z, wb, hc, he⟩ := chain_total bs _ 0 (Nat.le_refl _) (Nat.zero_le _)
  exact ⟨l, wb, z, hc, he⟩
theorem at_app {bs ext : List UInt8} {j : Nat} (h : j < bs.length) : at_ (bs ++ ext) j = at_ bs j := by
  unfold at_; simp [List.getD_eq_getElem?_getD, List.getElem?_append_left h]
theorem at_mid {bs ext : List UInt8} : at_ (bs ++ 32 :: ext) bs.length = 32 := by
  unfold at_; simp [List.getD_eq_getElem?_getD]
theorem sub_app {bs ext : List UInt8} {i j : Nat} (hj : j ≤ bs.length) : sub (bs ++ ext) i j = sub bs i j := by
  unfold sub; rw [List.take_append_of_le_length hj]
theorem skip_app {bs ext : List UInt8} {a i : Nat} (h : Skip bs a i) (hi : i < bs.length) : Skip (bs ++ ext) a i :=
  ⟨h.le, by simp; omega, fun j h1 h2 => by rw [at_app (by omega)]; exact h.all j h1 h2, fun _ => by rw [at_app hi]; exact h.stop hi⟩
/-- a word, or a wrong byte, stays -/
theorem word_app {bs ext : List UInt8} {a i j : Nat} (h : scn.Next bs a (.word i j)) : scn.Next (bs ++ 32 :: ext) a (.word i j) := by
  obtain ⟨h1, h2, h3, h4⟩ := h.word_at
  have hj := h2.len
  refine ⟨i, j, skip_app h1 (by omega), ⟨h2.le, by simp; omega, fun q g1 g2 => by rw [at_app (by omega)]; exact h2.all q g1 g2, fun _ => ?_⟩, .inr (.inr ⟨fun hw => ?_, h4, rfl⟩)⟩
  · rcases Nat.lt_or_eq_of_le hj with g | g
    · rw [at_app g]; exact h2.stop g
    · rw [g, at_mid]; rfl
  · rcases Nat.lt_or_eq_of_le hj with g | g
    · exact h3 ⟨g, by rw [← at_app g]; exact hw.2⟩
    · have := hw.2; rw [g, at_mid] at this; cases this
theorem bad_app {bs ext : List UInt8} {a b : Nat} (h : scn.Next bs a (.bad b)) : scn.Next (bs ++ ext) a (.bad b) := by
  obtain ⟨i, h1, h2, h3⟩ := h.bad_at
  have hb := h3.1
  have hi := h2.le
  exact ⟨i, b, skip_app h1 (by omega), ⟨h2.le, by simp; omega, fun q g1 g2 => by rw [at_app (by omega)]; exact h2.all q g1 g2, fun _ => by rw [at_app hb]; exact h2.stop hb⟩, .inl ⟨⟨by simp; omega, by rw [at_app hb]; exact h3.2⟩, rfl⟩⟩
theorem chain_app {bs ext : List UInt8} {a z : Nat} {l : List Wd} (h : Chain bs a l z) : Chain (bs ++ 32 :: ext) a l z := by
  induction h with
  | nil a => exact .nil a
  | cons h1 _ ih =>
    rename_i i j _ _ _
    have := Chain.cons (word_app (ext := ext) h1) ih
    rw [sub_app h1.word_at.2.1.len] at this
    exact this
theorem chain_join {bs : List UInt8} {a z y : Nat} {l m : List Wd} (h : Chain bs a l z) (k : Chain bs z m y) : Chain bs a (l ++ m) y := by
  induction h with
  | nil a => exact k
  | cons h1 _ ih => exact .cons h1 (ih k)
theorem chain_end {bs : List UInt8} {a z : Nat} {l : List Wd} (h : Chain bs a l z) : a ≤ bs.length → z ≤ bs.length := by
  induction h with
  | nil a => exact id
  | cons h1 _ ih => exact fun _ => ih h1.word_at.2.1.len
theorem told_more {bs ext : List UInt8} {l : List Wd} {wb : Int} (h : scn.Told bs l wb) : ∃ l2 wb2, scn.Told (bs ++ 32 :: ext) (l ++ l2) wb2 ∧ (wb ≠ -1 → l2 = [] ∧ wb2 = wb) := by
  obtain ⟨z, hc, he⟩ := h
  have hz := chain_end hc (Nat.zero_le _)
  rcases he with ⟨rfl, hn⟩ | ⟨b, rfl, hn⟩
  · obtain ⟨l2, y, wb2, h2, h3⟩ := chain_total (bs ++ 32 :: ext) _ z (Nat.le_refl _) (by simp; omega)
    exact ⟨l2, wb2, ⟨y, chain_join (chain_app hc) h2, h3⟩, fun h => absurd rfl h⟩
  · exact ⟨[], b, ⟨z, by rw [List.append_nil]; exact chain_app hc, .inr ⟨b, rfl, bad_app hn⟩⟩, fun _ => ⟨rfl, rfl⟩⟩
/-- an error ahead of the end stays at its place -/
theorem places {bs ext : List UInt8} {l : List Wd} {wb e x : Int} (h : scn.Told bs l wb) (hp : pread (enOf bs wb) (eeOf wb) l = .err e x) (h5 : e ≠ 5) (hx : x ≠ bs.length) :
    ∃ l2 wb2, scn.Told (bs ++ 32 :: ext) l2 wb2 ∧ pread (enOf (bs ++ 32 :: ext) wb2) (eeOf wb2) l2 = .err e x := by
  obtain ⟨l2, wb2, h2, h3⟩ := told_more (ext := ext) h
  refine ⟨_, wb2, h2, ?_⟩
  by_cases hw : wb = -1
  · subst hw
    refine pread_more hp h5 ?_ ?_
    · unfold enOf; rw [if_pos rfl]; intro h; injection h with _ h; exact hx h
    · unfold eeOf; rw [if_pos rfl]; intro h; exact absurd h (by decide)
  · obtain ⟨rfl, rfl⟩ := h3 hw
    rw [List.append_nil]
    unfold enOf at hp ⊢
    rw [if_neg hw] at hp ⊢
    exact hp
end Go.Proofs.YtafdijfbgkcnnaaDoor.wcp
/- Words put together, one blank between: the text ends in its last word. Plain. -/
namespace Go.Proofs.YtafdijfbgkcnnaaDoor.scn
open Go Go.RowKit Go.Proofs.YtafdijfbgkcnnaaDoor.words
set_option linter.unusedVariables false
/-- whatever follows, so far these are the words, the last under way -/
def Mid (bs : List UInt8) (l : List Wd) : Prop := ∀ ext, Far (bs ++ ext) bs.length l true
theorem Mid.told {bs : List UInt8} {l : List Wd} (h : Mid bs l) : Told bs l (-1) := by
  have := h []
  rw [List.append_nil] at this
  exact this.ends
theorem Mid.blank {bs : List UInt8} {l : List Wd} (h : Mid bs l) {b : UInt8} (hb : isB b.toNat = true) : Bld (bs ++ [b]) l := by
  intro ext
  have h1 := h ([b] ++ ext)
  have := h1.between (by simp) (by
    unfold at_
    have := getD_mid bs [b] ext (k := 0) (by simp)
    rw [Nat.add_zero] at this
    rw [this]; exact hb)
  rw [List.append_assoc, List.length_append]
  exact this
theorem Bld.mid {bs : List UInt8} {l : List Wd} (h : Bld bs l) {v : List UInt8} (hv : v ≠ []) (hall : v.all (fun b => isIn b.toNat) = true) : Mid (bs ++ v) (l ++ [(v, bs.length)]) := by
  intro ext
  obtain ⟨c, cs, rfl⟩ : ∃ c cs, v = c :: cs := by cases v with
    | nil => exact absurd rfl hv
    | cons c cs => exact ⟨c, cs, rfl⟩
  have hat : ∀ k, k < (c :: cs).length → isIn (at_ (bs ++ ((c :: cs) ++ ext)) (bs.length + k)) = true := fun k hk => by
    unfold at_
    rw [getD_mid _ _ _ hk]
    rw [List.all_eq_true] at hall
    refine hall _ ?_
    rw [List.getD_eq_getElem?_getD, List.getElem?_eq_getElem hk]
    exact List.getElem_mem hk
  have h0 := h ((c :: cs) ++ ext)
  have key : ∀ k, k < (c :: cs).length → Far (bs ++ ((c :: cs) ++ ext)) (bs.length + k + 1) (l ++ [((c :: cs).take (k + 1), bs.length)]) true := by
    intro k
    induction k with
    | zero =>
      intro hk
      have h1 := h0.begins (by simp) (hat 0 hk)
      rw [show (bs ++ ((c :: cs) ++ ext)).getD bs.length 0 = c by
        have := getD_mid bs (c :: cs) ext (k := 0) hk
        rw [Nat.add_zero] at this
        rw [this]; rfl] at h1
      exact h1
    | succ k ih =>
      intro hk
      obtain ⟨l0, w, s, he, _, h2⟩ := (ih (by omega)).goes (by simp at hk ⊢; omega) (hat (k + 1) hk)
      obtain ⟨rfl, h3⟩ := List.append_inj' he rfl
      injection h3 with h3
      injection h3 with h4 h5
      subst h4; subst h5
      have h6 := getD_mid bs (c :: cs) ext (k := k + 1) hk
      rw [show bs.length + k + 1 = bs.length + (k + 1) by omega, h6] at h2
      have h7 : (c :: cs).take (k + 1) ++ [(c :: cs).getD (k + 1) 0] = (c :: cs).take (k + 1 + 1) := by
        rw [List.take_add_one (i := k + 1), List.getD_eq_getElem?_getD, List.getElem?_eq_getElem hk]
        rfl
      rw [h7] at h2
      exact h2
  have h1 := key cs.length (by simp)
  rw [show (c :: cs).take (cs.length + 1) = c :: cs from List.take_of_length_le (by simp)] at h1
  have e1 : bs ++ (c :: cs) ++ ext = bs ++ ((c :: cs) ++ ext) := by simp
  have e2 : (bs ++ (c :: cs)).length = bs.length + cs.length + 1 := by simp; omega
  rw [e1, e2]
  exact h1
theorem mid_one {v : List UInt8} (hv : v ≠ []) (hall : v.all (fun b => isIn b.toNat) = true) : Mid v [(v, 0)] := bld_nil.mid hv hall
/-- one word more -/
theorem Mid.snoc {bs : List UInt8} {l : List Wd} (h : Mid bs l) {v : List UInt8} (hv : v ≠ []) (hall : v.all (fun b => isIn b.toNat) = true) : Mid (bs ++ 32 :: v) (l ++ [(v, bs.length + 1)]) := by
  have := (h.blank (b := 32) (by decide)).mid hv hall
  rw [List.append_assoc, List.length_append] at this
  exact this
/-! a number's digits are a word -/
theorem isD_in {b : UInt8} (h : isD b = true) : isIn b.toNat = true := by
  simp only [isD, Bool.and_eq_true, decide_eq_true_eq] at h
  simp only [isIn, Bool.and_eq_true, decide_eq_true_eq]
  omega
theorem itoa_in (n : Int) : Lib.itoa n ≠ [] ∧ (Lib.itoa n).all (fun b => isIn b.toNat) = true := by
  obtain ⟨_, h2, h3⟩ := dd_all n.natAbs
  have h4 : (Lib.decDigits n.natAbs).all (fun b => isIn b.toNat) = true := by
    rw [List.all_eq_true] at h2 ⊢
    exact fun b hb => isD_in (h2 b hb)
  by_cases h : n < 0
  · have e : Lib.itoa n = 45 :: Lib.decDigits n.natAbs := by unfold Lib.itoa; rw [if_pos h]
    rw [e]
    refine ⟨by simp, ?_⟩
    rw [List.all_cons, h4]; rfl
  · have e : Lib.itoa n = Lib.decDigits n.natAbs := by unfold Lib.itoa; rw [if_neg h]; congr 1; omega
    rw [e]
    exact ⟨h3, h4⟩
theorem readW_small {n : Int} (h0 : -4611686018427387904 ≤ n) (h1 : n ≤ 4611686018427387904) : readW (Lib.itoa n) = (n, 0) := by
  rw [readW_itoa]; congr 1; omega
end Go.Proofs.YtafdijfbgkcnnaaDoor.scn
/- The reader asks nothing of where words stand but hands it on: plain. -/
namespace Go.Proofs.YtafdijfbgkcnnaaDoor.wcp
open Go Go.Proofs.YtafdijfbgkcnnaaDoor.scn
set_option linter.unusedVariables false
section
variable (G : Int → Int) (g : Nat → Nat)
def Ps.mp (s : Ps) : Ps := { s with l := s.l.map fun w => (w.1, g w.2), big := s.big.map G }
def Res.mp {α : Type} (h : α → α) : Res α → Res α
  | .ok a s => .ok (h a) (s.mp G g)
  | .bad e x => .bad e (G x)
variable {G g} (hG : ∀ p : Nat, G (p : Int) = (g p : Int)) {en ee : Int}
theorem mp_bind {α β : Type} {r r2 : Res α} {f f2 : α → Ps → Res β} {h : α → α} {k : β → β} (hr : r2 = r.mp G g h) (hf : ∀ a s, f2 (h a) (s.mp G g) = (f a s).mp G g k) : r2.bind f2 = (r.bind f).mp G g k := by
  subst hr
  cases r with
  | ok a s => exact hf a s
  | bad e x => rfl
theorem plarge_mp (is : Bool) (x : Int) (s : Ps) : plarge is (G x) (s.mp G g) = (plarge is x s).mp G g := by
  obtain ⟨l, b, t, sh⟩ := s
  unfold plarge Ps.mp
  cases b with
  | none =>
    by_cases h : is = true
    · simp [h]
    · simp [h]
  | some y => simp
theorem pword_mp (s : Ps) : pword (G en) ee (s.mp G g) = (pword en ee s).mp G g fun w => (w.1, g w.2) := by
  obtain ⟨l, b, t, sh⟩ := s
  cases l with
  | nil => rfl
  | cons w r => rfl
include hG
theorem pnum_mp (lo hi : Int) (s : Ps) : pnum (G en) ee lo hi (s.mp G g) = (pnum en ee lo hi s).mp G g fun v => (v.1, G v.2) := by
  unfold pnum
  refine mp_bind (pword_mp s) fun w s => ?_
  by_cases h : (readW w.1).2 ≠ 0 ∨ (readW w.1).1 < lo ∨ (readW w.1).1 > hi
  · rw [if_pos h, if_pos h]; show Res.bad 4 ((g w.2 : Nat) : Int) = .bad 4 (G w.2); rw [hG]
  · rw [if_neg h, if_neg h]; show Res.ok ((readW w.1).1, ((g w.2 : Nat) : Int)) _ = .ok ((readW w.1).1, G w.2) _; rw [hG]
theorem pscope_mp (n : Int) (k : Nat) : ∀ (out : List Int) (s : Ps), pscope (G en) ee n k out (s.mp G g) = (pscope en ee n k out s).mp G g id := by
  induction k with
  | zero => intro out s; rfl
  | succ k ih =>
    intro out s
    unfold pscope
    refine mp_bind (pnum_mp hG _ _ s) fun v s => ?_
    by_cases h : v.1 ∈ out
    · rw [if_pos h, if_pos h]; rfl
    · rw [if_neg h, if_neg h]; exact ih _ _
theorem ptup_mp (ks : List Int) : ∀ (out : List Int) (s : Ps), ptup (G en) ee ks out (s.mp G g) = (ptup en ee ks out s).mp G g id := by
  induction ks with
  | nil => intro out s; rfl
  | cons k ks ih =>
    intro out s
    unfold ptup
    exact mp_bind (pnum_mp hG _ _ s) fun v s => ih _ _
theorem plines_mp (sizes : List Int) (k : Nat) : ∀ (out : List (List Int × Int)) (s : Ps), plines (G en) ee sizes k out (s.mp G g) = (plines en ee sizes k out s).mp G g id := by
  induction k with
  | zero => intro out s; rfl
  | succ k ih =>
    intro out s
    unfold plines
    refine mp_bind (ptup_mp hG sizes [] s) fun t s => mp_bind (pnum_mp hG _ _ s) fun c s => ?_
    by_cases h : t ∈ out.map Prod.fst
    · rw [if_pos (show id t ∈ out.map Prod.fst from h), if_pos h]; rfl
    · rw [if_neg (show ¬ id t ∈ out.map Prod.fst from h), if_neg h]; exact ih _ _
theorem pall_mp (sizes : List Int) (s : Ps) : pall (G en) ee sizes (s.mp G g) = (pall en ee sizes s).mp G g id := by
  unfold pall
  refine mp_bind (pnum_mp hG _ _ s) fun n s => ?_
  by_cases h : n.1 < 0
  · rw [if_pos h, if_pos h]
    show (match s.sh[(-n.1 - 1).toNat]? with | none => (Res.bad 4 (G n.2) : Res (List (List Int × Int))) | some x => if x.1 = sizes then Res.ok x.2 (s.mp G g) else Res.bad 4 (G n.2)) = _
    cases hx : s.sh[(-n.1 - 1).toNat]? with
    | none => rfl
    | some x =>
      dsimp only
      by_cases h2 : x.1 = sizes
      · rw [if_pos h2, if_pos h2]; rfl
      · rw [if_neg h2, if_neg h2]; rfl
  · rw [if_neg h, if_neg h]
    have := plines_mp (en := en) (ee := ee) hG sizes n.1.toNat [] (plarge (decide (min (s.told + n.1) far > 16384)) n.2 { s with told := min (s.told + n.1) far })
    rw [← plarge_mp] at this
    exact this
theorem pfun_mp (all : List Int) (s : Ps) : pfun (G en) ee all (s.mp G g) = (pfun en ee all s).mp G g id := by
  unfold pfun
  refine mp_bind (pnum_mp hG _ _ s) fun a s => mp_bind (pscope_mp hG _ _ _ s) fun sc s => ?_
  dsimp only [id_eq]
  rw [plarge_mp]
  refine mp_bind (pnum_mp hG _ _ _) fun o s => mp_bind (pall_mp hG _ s) fun ls s => ?_
  dsimp only [id_eq]
  by_cases h : a.1 < 0
  · rw [if_pos h, if_pos h]; rfl
  · rw [if_neg h, if_neg h]; rfl
theorem psizes_mp (most : Int) (k : Nat) : ∀ (out : List Int) (s : Ps), psizes (G en) ee most k out (s.mp G g) = (psizes en ee most k out s).mp G g id := by
  induction k with
  | zero => intro out s; rfl
  | succ k ih =>
    intro out s
    unfold psizes
    refine mp_bind (pnum_mp hG _ _ s) fun v s => ?_
    dsimp only
    rw [plarge_mp]
    exact ih _ _
theorem pfuns_mp (all : List Int) (k : Nat) : ∀ (out : List Raw) (s : Ps), pfuns (G en) ee all k out (s.mp G g) = (pfuns en ee all k out s).mp G g id := by
  induction k with
  | zero => intro out s; rfl
  | succ k ih =>
    intro out s
    unfold pfuns
    exact mp_bind (pfun_mp hG _ s) fun f s => ih _ _
theorem pbody_mp (s : Ps) : pbody (G en) ee (s.mp G g) = (pbody en ee s).mp G g id := by
  unfold pbody
  refine mp_bind (pword_mp s) fun w s => ?_
  dsimp only
  rw [show ((g w.2 : Nat) : Int) = G (w.2 : Int) from (hG _).symm, plarge_mp]
  refine mp_bind (pnum_mp hG _ _ _) fun n s => ?_
  dsimp only
  rw [plarge_mp]
  refine mp_bind (pnum_mp hG _ _ _) fun most s => mp_bind (pnum_mp hG _ _ _) fun count s => ?_
  dsimp only
  rw [plarge_mp]
  refine mp_bind (pnum_mp hG _ _ _) fun k s => ?_
  dsimp only
  rw [plarge_mp]
  exact mp_bind (psizes_mp hG _ _ _ _) fun sizes s => mp_bind (pfuns_mp hG _ _ _ _) fun fs s => rfl
def Out.mp (G : Int → Int) : Out → Out
  | .err e x => .err e (G x)
  | .file f => .file f
/-- the same words at other places: the same, at those places -/
theorem pread_mp (l : List Wd) : pread (G en) ee (l.map fun w => (w.1, g w.2)) = (pread en ee l).mp G := by
  have h := pbody_mp (en := en) (ee := ee) hG ⟨l, none, 0, []⟩
  have e0 : (Ps.mp G g ⟨l, none, 0, []⟩) = ⟨l.map fun w => (w.1, g w.2), none, 0, []⟩ := rfl
  rw [e0] at h
  unfold pread
  rw [h]
  cases pbody en ee ⟨l, none, 0, []⟩ with
  | bad e x => rfl
  | ok f s =>
    obtain ⟨sl, sb, st, ss⟩ := s
    cases sl with
    | cons w r => show Out.err 4 ((g w.2 : Nat) : Int) = .err 4 (G w.2); rw [hG]
    | nil =>
      show (if ee = 11 then Out.err 11 (G en) else match sb.map G with | some x => .err 5 x | none => .file f) = Out.mp G (if ee = 11 then .err 11 en else match sb with | some x => .err 5 x | none => .file f)
      by_cases he : ee = 11
      · rw [if_pos he, if_pos he]; rfl
      · rw [if_neg he, if_neg he]
        cases sb <;> rfl
end
/-- words by their numbers -/
def idx (ws : List (List UInt8)) : List Wd := ws.zipIdx
theorem idx_lt {ws : List (List UInt8)} {w : Wd} (h : w ∈ idx ws) : w.2 < ws.length := by
  obtain ⟨v, i⟩ := w
  have := List.mem_zipIdx h
  omega
/-- an error stands at a word, or at the end -/
theorem idx_place {ws : List (List UInt8)} {ee e x : Int} (h : pread ws.length ee (idx ws) = .err e x) : 0 ≤ x ∧ x ≤ ws.length := by
  have hp := pread_mp (G := fun x => if 0 ≤ x ∧ x ≤ (ws.length : Int) then x else x + 1) (g := fun p => if p ≤ ws.length then p else p + 1) (en := ws.length) (ee := ee) (fun p => by
    by_cases hp : p ≤ ws.length
    · rw [if_pos hp, if_pos ⟨by omega, by omega⟩]
    · rw [if_neg hp, if_neg (by omega)]; omega) (idx ws)
  have hm : (idx ws).map (fun w => (w.1, if w.2 ≤ ws.length then w.2 else w.2 + 1)) = idx ws := by
    conv => rhs; rw [← List.map_id (idx ws)]
    refine List.map_congr_left fun w hw => ?_
    have := idx_lt hw
    rw [if_pos (by omega)]
    rfl
  rw [hm] at hp
  rw [if_pos ⟨by omega, by omega⟩, h] at hp
  have hx : x = if 0 ≤ x ∧ x ≤ (ws.length : Int) then x else x + 1 := by
    have : Out.err e x = .err e (if 0 ≤ x ∧ x ≤ (ws.length : Int) then x else x + 1) := hp
    injection this
  by_cases hc : 0 ≤ x ∧ x ≤ (ws.length : Int)
  · exact hc
  · rw [if_neg hc] at hx; omega
/-- words at places -/
def atP (ws : List (List UInt8)) (ps : List Nat) : List Wd := ws.zip ps
theorem atP_map (ws : List (List UInt8)) (ps : List Nat) (hl : ps.length = ws.length) (d : Nat) : atP ws ps = (idx ws).map fun w => (w.1, ps.getD w.2 d) := by
  unfold atP idx
  apply List.ext_getElem
  · simp [hl]
  · intro i h1 h2
    have hi : i < ps.length := by simp at h1; omega
    simp [List.getD_eq_getElem?_getD, List.getElem?_eq_getElem hi]
end Go.Proofs.YtafdijfbgkcnnaaDoor.wcp
/- The document's words without their places. -/
namespace Go.Proofs.YtafdijfbgkcnnaaDoor.scn
open Go Go.RowKit Go.ChangeShapes Go.WideShapes Go.ChangeAt Go.Proofs.YtafdijfbgkcnnaaDoor.words
set_option linter.unusedVariables false
def lenSum (l : List Wd) : Nat := l.foldr (fun w n => w.1.length + n) 0
theorem lenSum_cons (w : Wd) (l : List Wd) : lenSum (w :: l) = w.1.length + lenSum l := rfl
theorem sub_in {bs : List UInt8} {i j : Nat} (h : Ins bs i j) : (sub bs i j).all (fun b => isIn b.toNat) = true := by
  rw [List.all_eq_true]
  intro b hb
  obtain ⟨q, hq⟩ := List.mem_iff_getElem?.1 hb
  have hl := (List.getElem?_eq_some_iff.1 hq).1
  have hj := h.len
  have hs := sub_len (bs := bs) (i := i) hj
  have h1 := h.all (i + q) (by omega) (by omega)
  unfold sub at hq
  rw [List.getElem?_drop, List.getElem?_take_of_lt (by omega)] at hq
  unfold at_ at h1
  rw [List.getD_eq_getElem?_getD, hq] at h1
  exact h1
theorem chain_words {bs : List UInt8} {a z : Nat} {l : List Wd} (h : Chain bs a l z) : a ≤ bs.length → (∀ w ∈ l, w.1 ≠ [] ∧ w.1.all (fun b => isIn b.toNat) = true) ∧ a + lenSum l ≤ z ∧ z ≤ bs.length ∧ l.length ≤ lenSum l := by
  induction h with
  | nil a => intro ha; exact ⟨fun w hw => (by cases hw), Nat.le_refl _, ha, Nat.le_refl _⟩
  | cons h1 k ih =>
    rename_i a i j z l
    intro ha
    obtain ⟨g1, g2, g3, g4⟩ := h1.word_at
    have gl := g2.len
    have gi := g1.le
    obtain ⟨i1, i2, i3, i4⟩ := ih gl
    have hs := sub_len (bs := bs) (i := i) gl
    refine ⟨fun w hw => ?_, ?_, i3, ?_⟩
    · rcases List.mem_cons.1 hw with rfl | hw
      · refine ⟨fun e => ?_, sub_in g2⟩
        dsimp only at e
        rw [e] at hs
        simp at hs
        omega
      · exact i1 w hw
    · rw [lenSum_cons]; dsimp only; omega
    · rw [lenSum_cons, List.length_cons]; dsimp only; omega
theorem told_words {bs : List UInt8} {l : List Wd} {bad : Int} (h : Told bs l bad) : (∀ w ∈ l, w.1 ≠ [] ∧ w.1.all (fun b => isIn b.toNat) = true) ∧ lenSum l ≤ bs.length ∧ l.length ≤ lenSum l := by
  obtain ⟨z, hc, _⟩ := h
  obtain ⟨h1, h2, h3, h4⟩ := chain_words hc (Nat.zero_le _)
  exact ⟨h1, by omega, h4⟩
def strs (ws : List (List UInt8)) : List Value := ws.map strV
theorem infoS : (Tryd.prog.info? 9).map (fun i => (i.zero, i.size, i.bytes)) = some (some (.string ⟨#[]⟩), 1, 16) := by kernel_rfl
def FieldsR (bs : List UInt8) (w : World) (e : Ending) (w' : World) : Prop :=
  ∃ l bad A c, e = .returned (.slice A l.length c) ∧ Told bs l bad ∧ w'.ownsRow w.heap.size 9 1 (.slice A l.length c) l.length (strs (l.map Prod.fst)) ∧ Below w.heap.size w w'
set_option maxRecDepth 100000 in
set_option maxHeartbeats 4000000 in
theorem fields_any (A : Option Addr) (n cap B : Nat) (bs : List UInt8) (w : World) (hl : bs.length = n) (hn : n ≤ 1000) (ho : w.ownsRow B 5 1 (.slice A n cap) n (bv bs)) :
    Calls Tryd.prog 21 #[.slice A n cap] w fun e w' => FieldsR bs w e w' := by
  obtain ⟨i0, hi0, hz0, hz1, hz2⟩ := info_parts infoS
  have hw := words_all A n cap B bs w hl hn ho
  clear ho
  go_enter Tryd.func21, Tryd.ntmps21
  go_wp2_with fail
  refine hw.mono ?_
  rintro e w1 ⟨l, bad, AW, cW, rfl, hT, hR, hb⟩
  have hll := (told_words hT).2
  have HT := Lib.hid hT
  have hl1 : l.length ≤ 1000 := by omega
  clear hw hT hll
  go_wp2_with fail
  go_loopw [5, 15] (fun ov iv wr => ∃ (i : Nat) (A5 : Option Addr) (c5 : Nat), iv = .int .i64 i ∧ i ≤ l.length ∧ ov = .slice A5 i c5 ∧ wr.ownsRow w.heap.size 9 1 (.slice A5 i c5) i (strs ((l.take i).map Prod.fst)) ∧ Row w l AW cW wr ∧ Below w.heap.size w wr) (fun _ iv _ => l.length - (intOf iv).toNat)
  case atStart => exact ⟨0, none, 0, rfl, Nat.zero_le _, rfl, World.ownsRow_nil _ _ _ _, hR, hb⟩
  case round =>
    clear hR hb
    obtain ⟨i, A5, c5, rfl, hi, rfl, ho5, hR, hb⟩ := hrel
    by_cases hlt : i < l.length
    · obtain ⟨v, s, hvs⟩ : ∃ v s, l[i]? = some (v, s) := ⟨(l[i]).1, (l[i]).2, by rw [List.getElem?_eq_getElem hlt]⟩
      obtain ⟨q, rfl, hc0, hc1⟩ := hR.at_ hvs
      have hcap := own_cap hR
      have HTK : Hid (strs ((l.take (i + 1)).map Prod.fst) = strs ((l.take i).map Prod.fst) ++ [strV v]) := by
        rw [Hid, List.take_add_one, hvs]
        simp [strs]
      have ho1 := own_under ho5 (bone wr (.cells #[strV v, .int .i64 (s : Nat)] 100))
      have ho2 := Lib.hid (own_under ho1 (bone _ (.cells #[strV v] 9)))
      have hR2 : Row w l (some ⟨q, 0, none⟩) cW ((wr.alloc (.cells #[strV v, .int .i64 (s : Nat)] 100)).alloc (.cells #[strV v] 9)) := (hR.below (bone _ _)).below (bone _ _)
      have hB2 := Lib.hid (bnew (bnew hb (.cells #[strV v, .int .i64 (s : Nat)] 100)) (.cells #[strV v] 9))
      have hr1 : Reads ((wr.alloc (.cells #[strV v, .int .i64 (s : Nat)] 100)).alloc (.cells #[strV v] 9)) ((wr.alloc (.cells #[strV v, .int .i64 (s : Nat)] 100)).alloc (.cells #[strV v] 9)).heap.size 1 (some ⟨(wr.alloc (.cells #[strV v, .int .i64 (s : Nat)] 100)).heap.size, 0, none⟩) 1 [strV v] := reads_block (t := 9) (heap_alloc_new _ _) rfl
      have hone : ∀ u ∈ ([strV v] : List Value), u.oneCell' = true := fun u hu => by rw [List.mem_singleton.1 hu]; rfl
      have hsz : w.heap.size ≤ ((wr.alloc (.cells #[strV v, .int .i64 (s : Nat)] 100)).alloc (.cells #[strV v] 9)).heap.size := hB2.out.size
      rw [show (wr.alloc (.cells #[strV v, .int .i64 (s : Nat)] 100)).heap.size = wr.heap.size + 1 by simp] at hr1
      have HR2 := Lib.hid hR2
      clear ho1 hR2 hR hb
      have ho3 := ho2.out
      go_wp2_with (first
        | (at_builtin; refine wpList_append_any _ rfl (.tmp 19) (.tmp 22) _ rfl w.heap.size 9 i0 _ 1 16 Tryd.underlying59 hi0 hz0 hz1 hz2 rfl (by omega) (.slice A5 i c5) i _ rfl ho3 _ _ 1 1 [strV v] rfl hr1 hone (by simp only [maxLen]; omega) (by omega) hsz ?_; intro v6 w6 hown6 hg6 hat6; clear hat6; obtain ⟨A6, c6, rfl⟩ := own_shape hown6; have HO6 := Lib.hid hown6; have HG6 := Lib.hid hg6; clear hown6 hg6 ho3 hr1)
        | fail)
      go_roundw
      case measure => simp [intOf]; omega
      case rel =>
        have hg := HG6.out
        exact ⟨i + 1, A6, c6, by go_num, by omega, rfl, by rw [HTK.out]; exact HO6.out, own_keep HR2.out ho2.out (by decide) hg, hB2.out.grown hg hsz (fun g hg => (own_in ho2.out hg).1)⟩
    · obtain rfl : i = l.length := by omega
      have HO := Lib.hid ho5
      have HB := Lib.hid hb
      clear ho5 hb hR
      go_wp2_with fail
      go_ret
      exact ⟨l, bad, A5, c5, rfl, HT.out, by have := HO.out; rw [List.take_length] at this; exact this, HB.out⟩
end Go.Proofs.YtafdijfbgkcnnaaDoor.scn
/- The same words with other blanks between them: plain. -/
namespace Go.Proofs.YtafdijfbgkcnnaaDoor.wcp
open Go Go.RowKit Go.Proofs.YtafdijfbgkcnnaaDoor.scn Go.Proofs.YtafdijfbgkcnnaaDoor.words
set_option linter.unusedVariables false
/-- so far these words, the last perhaps under way -/
def St (bs : List UInt8) (l : List Wd) : Prop := Bld bs l ∨ scn.Mid bs l
theorem St.blank {bs : List UInt8} {l : List Wd} (h : St bs l) {b : UInt8} (hb : isB b.toNat = true) : Bld (bs ++ [b]) l := h.elim (fun h => h.blank hb) fun h => h.blank hb
theorem St.told {bs : List UInt8} {l : List Wd} (h : St bs l) : scn.Told bs l (-1) := h.elim Bld.told scn.Mid.told
theorem atP_snoc {ws : List (List UInt8)} {i : Nat} {v : List UInt8} {ps : List Nat} (x : Nat) (hv : ws[i]? = some v) (hl : ps.length = i) : atP (ws.take (i + 1)) (ps ++ [x]) = atP (ws.take i) ps ++ [(v, x)] := by
  have hi := (List.getElem?_eq_some_iff.1 hv).1
  unfold atP
  rw [List.take_add_one, hv]
  exact List.zip_append (by simp; omega)
/-- between the rounds -/
structure SpI (ws : List (List UInt8)) (i : Nat) (qb pb : List UInt8) (pl ol : List Nat) : Prop where
  fq : St qb (atP (ws.take i) pl)
  fp : St pb (atP (ws.take i) ol)
  lpl : pl.length = i
  lol : ol.length = i
  up : ol.Pairwise (· < ·)
  lt : ∀ x ∈ ol, x < pb.length
  ql : qb.length ≤ 3 * i + lenSum (idx (ws.take i))
  pbl : pb.length = i + lenSum (idx (ws.take i))
theorem lenSum_append (l m : List Wd) : lenSum (l ++ m) = lenSum l + lenSum m := by
  induction l with
  | nil => simp [lenSum]
  | cons w l ih => rw [List.cons_append, lenSum_cons, lenSum_cons, ih]; omega
theorem idx_snoc {ws : List (List UInt8)} {i : Nat} {v : List UInt8} (hv : ws[i]? = some v) : lenSum (idx (ws.take (i + 1))) = lenSum (idx (ws.take i)) + v.length := by
  unfold idx
  rw [List.take_add_one, hv, Option.toList_some, List.zipIdx_append, lenSum_append]
  simp [lenSum]
theorem SpI.zero (ws : List (List UInt8)) : SpI ws 0 [] [] [] [] := ⟨.inl bld_nil, .inl bld_nil, rfl, rfl, List.Pairwise.nil, fun x hx => (by cases hx), Nat.le_refl _, rfl⟩
theorem SpI.step {ws : List (List UInt8)} {i : Nat} {qb pb q2 : List UInt8} {pl ol : List Nat} (h : SpI ws i qb pb pl ol) {v : List UInt8} (hv : ws[i]? = some v) (h0 : v ≠ []) (hall : v.all (fun b => isIn b.toNat) = true)
    (hq : Bld q2 (atP (ws.take i) pl)) (hq2 : q2.length ≤ qb.length + 3) : SpI ws (i + 1) (q2 ++ v) (pb ++ [32] ++ v) (pl ++ [q2.length]) (ol ++ [pb.length + 1]) := by
  have hs := idx_snoc hv
  refine ⟨.inr ?_, .inr ?_, by simp [h.lpl], by simp [h.lol], ?_, fun x hx => ?_, ?_, ?_⟩
  · rw [atP_snoc _ hv h.lpl]; exact hq.mid h0 hall
  · rw [atP_snoc _ hv h.lol]
    have := (h.fp.blank (b := 32) (by decide)).mid h0 hall
    rw [List.length_append] at this
    exact this
  · rw [List.pairwise_append]
    refine ⟨h.up, List.pairwise_singleton _ _, fun a ha b hb => ?_⟩
    rw [List.mem_singleton.1 hb]
    have := h.lt a ha
    omega
  · have hv0 : 0 < v.length := List.length_pos_iff.2 h0
    simp only [List.length_append, List.length_cons, List.length_nil]
    rcases List.mem_append.1 hx with hx | hx
    · have := h.lt x hx; omega
    · rw [List.mem_singleton.1 hx]; omega
  · have := h.ql
    rw [List.length_append, hs]; omega
  · have := h.pbl
    simp only [List.length_append, List.length_cons, List.length_nil]
    rw [hs]; omega
def gOf (ps : List Nat) (d : Nat) (p : Nat) : Nat := ps.getD p d
def GOf (ps : List Nat) (d : Nat) (x : Int) : Int := (gOf ps d x.toNat : Nat)
theorem pread_at {ws : List (List UInt8)} {bs : List UInt8} {ps : List Nat} (hl : ps.length = ws.length) : pread (enOf bs (-1)) (eeOf (-1)) (atP ws ps) = (pread ws.length 4 (idx ws)).mp (GOf ps bs.length) := by
  rw [atP_map ws ps hl bs.length]
  have h := pread_mp (G := GOf ps bs.length) (g := gOf ps bs.length) (en := ws.length) (ee := 4) (fun p => by unfold GOf; simp) (idx ws)
  have e1 : GOf ps bs.length ws.length = enOf bs (-1) := by
    unfold GOf gOf enOf
    rw [if_pos rfl]
    simp [List.getD_eq_getElem?_getD, ← hl]
  rw [e1] at h
  exact h
/-- the two are alike, or wrong at the same word -/
theorem SpI.law {ws : List (List UInt8)} {qb pb : List UInt8} {pl ol : List Nat} (h : SpI ws ws.length qb pb pl ol) :
    (∃ lp lq, scn.Told pb lp (-1) ∧ scn.Told qb lq (-1) ∧
      ((∃ f, pread (enOf pb (-1)) (eeOf (-1)) lp = .file f ∧ pread (enOf qb (-1)) (eeOf (-1)) lq = .file f) ∨
       ∃ (e : Int) (x y : Nat), pread (enOf pb (-1)) (eeOf (-1)) lp = .err e x ∧ pread (enOf qb (-1)) (eeOf (-1)) lq = .err e y ∧
        ((x = pb.length ∧ y = qb.length ∧ ∀ o ∈ ol, o ≠ x) ∨ ∃ k : Nat, ol[k]? = some x ∧ pl[k]? = some y ∧ ∀ j, ol[j]? = some x → j = k))) := by
  have hp := h.fp.told
  have hq := h.fq.told
  rw [List.take_length] at hp hq
  refine ⟨_, _, hp, hq, ?_⟩
  rw [pread_at h.lol, pread_at h.lpl]
  cases hr : pread ws.length 4 (idx ws) with
  | file f => exact .inl ⟨f, rfl, rfl⟩
  | err e x =>
    obtain ⟨h0, h1⟩ := idx_place hr
    refine .inr ⟨e, gOf ol pb.length x.toNat, gOf pl qb.length x.toNat, rfl, rfl, ?_⟩
    by_cases hx : x.toNat < ws.length
    · refine .inr ⟨x.toNat, ?_, ?_, fun j hj => ?_⟩
      · unfold gOf; rw [List.getD_eq_getElem?_getD, List.getElem?_eq_getElem (by rw [h.lol]; exact hx)]; rfl
      · unfold gOf; rw [List.getD_eq_getElem?_getD, List.getElem?_eq_getElem (by rw [h.lpl]; exact hx)]; rfl
      · have hx' : ol[x.toNat]? = some (gOf ol pb.length x.toNat) := by unfold gOf; rw [List.getD_eq_getElem?_getD, List.getElem?_eq_getElem (by rw [h.lol]; exact hx)]; rfl
        obtain ⟨hj1, hj2⟩ := List.getElem?_eq_some_iff.1 hj
        obtain ⟨hx1, hx2⟩ := List.getElem?_eq_some_iff.1 hx'
        have hup := List.pairwise_iff_getElem.1 h.up
        rcases Nat.lt_trichotomy j x.toNat with g | g | g
        · have := hup j x.toNat hj1 hx1 g; omega
        · exact g
        · have := hup x.toNat j hx1 hj1 g; omega
    · have e1 : gOf ol pb.length x.toNat = pb.length := by unfold gOf; rw [List.getD_eq_getElem?_getD, List.getElem?_eq_none (by rw [h.lol]; omega)]; rfl
      have e2 : gOf pl qb.length x.toNat = qb.length := by unfold gOf; rw [List.getD_eq_getElem?_getD, List.getElem?_eq_none (by rw [h.lpl]; omega)]; rfl
      refine .inl ⟨e1, e2, fun o ho => ?_⟩
      rw [e1]
      have := h.lt o ho
      omega
end Go.Proofs.YtafdijfbgkcnnaaDoor.wcp
/- A file that was read is one that there may be: plain. -/
namespace Go.Proofs.YtafdijfbgkcnnaaDoor.wcp
open Go Go.Proofs.YtafdijfbgkcnnaaDoor.scn
set_option linter.unusedVariables false
theorem pread_inv {en : Int} {l : List Wd} {f : Fil} (h : pread en 4 l = .file f) : ∃ s, pbody en 4 ⟨l, none, 0, []⟩ = .ok f s ∧ s.big = none := by
  unfold pread at h
  cases hb : pbody en 4 ⟨l, none, 0, []⟩ with
  | bad e x => rw [hb] at h; cases h
  | ok f' s =>
    rw [hb] at h
    obtain ⟨sl, sb, st, ss⟩ := s
    cases sl with
    | cons w r => cases h
    | nil =>
      dsimp only at h
      rw [if_neg (by decide)] at h
      cases sb with
      | some x => cases h
      | none => injection h with h; subst h; exact ⟨_, rfl, rfl⟩
theorem bind_inv {α β : Type} {r : Res α} {g : α → Ps → Res β} {b : β} {s' : Ps} (h : r.bind g = .ok b s') : ∃ a s, r = .ok a s ∧ g a s = .ok b s' := by
  cases r with
  | ok a s => exact ⟨a, s, rfl, h⟩
  | bad e x => cases h
theorem pread_ok {en : Int} {l : List Wd} {f : Fil} (h : pread en 4 l = .file f) (hl : l.length ≤ 65536) :
    (∃ w r, l = w :: r ∧ f.name = w.1) ∧ f.name.length ≤ 64 ∧ 1 ≤ f.k ∧ f.k ≤ 2147483648 ∧ 1 ≤ f.sizes.length ∧ f.sizes.length ≤ 64 ∧ (∀ v ∈ f.sizes, 1 ≤ v ∧ v ≤ 32) ∧ f.funs.length ≤ 256 ∧ f.funs.length ≤ l.length ∧
      ∀ x ∈ f.funs, okF x f.k ∧ FitF f.sizes x ∧ great x.sizes = false ∧ x.lines.length ≤ l.length := by
  obtain ⟨s', hb, hbig⟩ := pread_inv h
  unfold pbody at hb
  obtain ⟨w, s1, e1, hb⟩ := bind_inv hb
  obtain ⟨n, s2, e2, hb⟩ := bind_inv hb
  obtain ⟨most, s3, e3, hb⟩ := bind_inv hb
  obtain ⟨count, s4, e4, hb⟩ := bind_inv hb
  obtain ⟨k, s5, e5, hb⟩ := bind_inv hb
  obtain ⟨sizes, s6, e6, hb⟩ := bind_inv hb
  obtain ⟨fs, s7, e7, hb⟩ := bind_inv hb
  injection hb with hf hs
  subst hf hs
  obtain ⟨a1, a2, a3, a4, a5, a6⟩ := pnum_ok e2
  obtain ⟨b1, b2, b3, b4, b5, b6⟩ := pnum_ok e3
  obtain ⟨c1, c2, c3, c4, c5, c6⟩ := pnum_ok e4
  obtain ⟨d1, d2, d3, d4, d5, d6⟩ := pnum_ok e5
  obtain ⟨w1, w2, w3⟩ := pword_len' e1
  obtain ⟨l1, l1', l1''⟩ := plarge_l (decide (w.1.length > 64)) w.2 s1
  obtain ⟨l2, l2', l2''⟩ := plarge_l (decide (n.1 > 64)) n.2 s2
  obtain ⟨l4, l4', l4''⟩ := plarge_l (decide (count.1 > 256)) count.2 s4
  obtain ⟨l5, l5', l5''⟩ := plarge_l (decide (k.1 > 2147483648)) k.2 s5
  obtain ⟨p1, p2, p3, p4, p5⟩ := psizes_ok _ e6
  have hlen6 : s6.l.length ≤ l.length := by
    rw [l5] at p5; rw [l4] at d6; rw [l2] at b6; rw [l1] at a6
    have h0 : (⟨l, none, 0, []⟩ : Ps).l.length = l.length := rfl
    omega
  have hsh : s6.sh = [] := by rw [p3, l5', d3, l4', c3, b3, l2', a3, l1', w1]
  have htold : s6.told = 0 := by rw [p4, l5'', d4, l4'', c4, b4, l2'', a4, l1'', w2]
  have hall : ∀ v ∈ sizes, 1 ≤ v := fun v hv => (p2 v hv).1
  obtain ⟨q1, q2, q3, q4, q5⟩ := pfuns_big (N := l.length) (K := k.1) (by omega) hall _ e7 (fun p hp => by rw [hsh] at hp; cases hp) hlen6
  obtain ⟨r1, r2, r3⟩ := pfuns_ok (N := l.length) _ e7 ⟨by rw [htold]; omega, by rw [htold]; omega, by rw [hsh]; simpa using hlen6⟩
  obtain ⟨f6, g6⟩ := psizes_big _ e6 (q3 hbig)
  obtain ⟨f5, g5⟩ := plarge_none f6
  rw [d5] at g5
  obtain ⟨f4, g4⟩ := plarge_none g5
  rw [c5, b5] at g4
  obtain ⟨f2, g2⟩ := plarge_none g4
  rw [a5] at g2
  obtain ⟨f1, g1⟩ := plarge_none g2
  simp only [decide_eq_false_iff_not] at f1 f2 f4 f5
  have hfit := q5 hbig g6 d1 (by omega)
  refine ⟨?_, ?_, d1, ?_, ?_, ?_, fun v hv => ⟨hall v hv, g6 v hv⟩, ?_, ?_, fun x hx => ?_⟩
  · cases l with
    | nil => cases e1
    | cons w0 r =>
      have e1' : Res.ok w0 ⟨r, none, 0, []⟩ = .ok w s1 := e1
      injection e1' with e1' _
      exact ⟨w0, r, rfl, by rw [e1']⟩
  · dsimp only; omega
  · dsimp only; omega
  · dsimp only; omega
  · dsimp only; omega
  · dsimp only; omega
  · dsimp only; omega
  · obtain ⟨h1, h2, h3, h4⟩ := q4 x hx
    exact ⟨(hfit x hx).1, ⟨h1, h2, h3⟩, (hfit x hx).2, h4⟩
/-- a text's words are words -/
theorem isWord_of {bs : List UInt8} {l : List Wd} {bad : Int} (h : scn.Told bs l bad) {w : Wd} (hw : w ∈ l) : IsWord w.1 := by
  obtain ⟨h1, h2⟩ := (told_words h).1 w hw
  refine ⟨h1, fun q hq => ?_⟩
  rw [List.all_eq_true] at h2
  refine h2 _ ?_
  rw [List.getD_eq_getElem?_getD, List.getElem?_eq_getElem hq]
  exact List.getElem_mem hq
theorem okFile_of {bs : List UInt8} {l : List Wd} {en : Int} {f : Fil} (hT : scn.Told bs l (-1)) (h : pread en 4 l = .file f) (hl : l.length ≤ 65536) : OkFile f := by
  obtain ⟨⟨w, r, rfl, hn⟩, h1, h2, h3, h4, h5, h6, h7, h8, h9⟩ := pread_ok h hl
  exact ⟨by rw [hn]; exact isWord_of hT (by simp), h1, h2, h3, (fun e => by rw [e] at h4; simp at h4), h6, h5, h7, fun x hx => ⟨(h9 x hx).1, (h9 x hx).2.1, (h9 x hx).2.2.1⟩⟩
end Go.Proofs.YtafdijfbgkcnnaaDoor.wcp
/- A string appended to bytes: where the new slice lies. -/
namespace Go.Proofs.YtafdijfbgkcnnaaDoor.words
open Go
set_option linter.unusedVariables false
section
variable {P : Program} (w : World)
theorem run_append_str_at (base : Nat) (t u ty e : TypeId) (i : TypeInfo) (ht : P.underlying t = some (.slice e)) (hu : P.underlying u = some .string) (hi : P.info? e = some i) (hz : i.zero = some (.int .u8 0))
    (hsize : i.size = 1) (hby : i.bytes = 1) (v : Value) (n : Nat) (xs : List Value) (hown : w.ownsRow base e 1 v n xs) (s : ByteArray) (h0 : 0 < s.size)
    (h63 : n + s.size ≤ maxLen) (hbytes : n + s.size ≤ 140737488355328) (hbase : base ≤ w.heap.size) :
    ∃ v' w', (Builtin.append_ #[t, u] ty #[v, .string s]).run P w = .ok v' w' ∧ w'.ownsRow base e 1 v' (n + s.size) (xs ++ Lib.strCells s) ∧ w.grownBy w' v.ownBlock ∧ (v'.ownBlock = v.ownBlock ∨ v'.ownBlock = some w.heap.size) := by
  obtain ⟨v', w', hr, h2, h3, _⟩ := Lib.run_append_own_string (P := P) w base t u ty e i ht hu hi hz hsize hby v n xs hown s h63 hbytes hbase
  refine ⟨v', w', hr, h2, h3, ?_⟩
  have hsmall : n + s.size ≤ 9223372036854775807 := by simp only [maxLen] at h63; omega
  have hxl : xs.length = n := by simpa using hown.1
  have hown' := hown
  rcases hown.2 with ⟨rfl, rfl⟩ | ⟨g, cap, cur, rfl, hbg, hg, hnc, hcm, hcs, htake⟩
  · have hr2 := run_append_nil_string (P := P) w t u ty e i (.int .u8 0) ht hu hi hz s (by omega) (by omega) (by rw [hby]; omega)
    rw [hr2] at hr
    injection hr with hv _
    rw [← hv]
    exact .inr rfl
  · by_cases hroom : n + s.size ≤ cap
    · have hcs' : cur.size = cap := by simpa using hcs
      have hr2 := Lib.run_append_room_string (P := P) w t u ty e i ht hu hi hsize g n cap cur hg s hroom (by omega)
      rw [hr2] at hr
      injection hr with hv _
      rw [← hv]
      exact .inl rfl
    · have holds : ∀ j u, xs[j]? = some u → w.cell? ((⟨g, 0, none⟩ : Addr).add j) = some u := hown'.cells (g := g) rfl
      have hr2 := Lib.run_append_grow_string (P := P) w t u ty e i (.int .u8 0) ht hu hi hz ⟨g, 0, none⟩ n cap xs (by rw [hsize]; simpa using hxl) holds s (by omega) (by omega) (by rw [hby]; exact growslice_fits (by omega) (by omega))
      rw [hr2] at hr
      injection hr with hv _
      rw [← hv]
      exact .inr rfl
theorem wpList_append_str_at {ops : Array Oper} {rest : List Oper} {o : Oper} {a : Act} {Q : Exit → Act → World → Prop} (hgd : o.guard = none) (sl x : Operand) (t u : TypeId)
    (ho : o.op = .call { callee := .builtin .append, args := #[sl, x], argTypes := #[t, u] })
    (base : Nat) (e : TypeId) (i : TypeInfo) (ht : P.underlying t = some (.slice e)) (hu : P.underlying u = some .string) (hi : P.info? e = some i) (hz : i.zero = some (.int .u8 0)) (hsize : i.size = 1) (hby : i.bytes = 1)
    (v : Value) (n : Nat) (xs : List Value) (hs : a.eval sl = v) (hown : w.ownsRow base e 1 v n xs) (s : ByteArray) (h0 : 0 < s.size) (hx : a.eval x = .string s)
    (h63 : n + s.size ≤ maxLen) (hbytes : n + s.size ≤ 140737488355328) (hbase : base ≤ w.heap.size)
    (h : ∀ v' w', w'.ownsRow base e 1 v' (n + s.size) (xs ++ Lib.strCells s) → w.grownBy w' v.ownBlock → (v'.ownBlock = v.ownBlock ∨ v'.ownBlock = some w.heap.size) → wpList P ops Q rest (a.put o.dst v') w') : wpList P ops Q (o :: rest) a w := by
  refine wpList_plain hgd fun K hK => ?_
  obtain ⟨v', w', hr, h2, h3, h4⟩ := run_append_str_at (P := P) w base t u o.type e i ht hu hi hz hsize hby v n xs hown s h0 h63 hbytes hbase
  unfold Oper.wp execOp
  simp only [ho, resolve, invoke, builtin, Sem.run_bind, Sem.run_pure, Result.andThen_ok, List.map_toArray, List.map_cons, List.map_nil, hs, hx, hr]
  exact hK _ _ (h v' w' h2 h3 h4)
end
end Go.Proofs.YtafdijfbgkcnnaaDoor.words
/- Four rows that grow side by side. -/
namespace Go.Proofs.YtafdijfbgkcnnaaDoor.wcp
open Go Go.RowKit Go.ChangeShapes Go.WideShapes Go.ChangeAt Go.Maps Go.Proofs.YtafdijfbgkcnnaaDoor.words Go.Proofs.YtafdijfbgkcnnaaDoor.scn
set_option linter.unusedVariables false
def nats (l : List Nat) : List Int := l.map fun (x : Nat) => (x : Int)
theorem nats_len (l : List Nat) : (nats l).length = l.length := by simp [nats]
/-- two rows in blocks apart -/
def Ap (v u : Value) : Prop := ∀ k, v.ownBlock = some k → u.ownBlock ≠ some k
theorem Ap.symm {v u : Value} (h : Ap v u) : Ap u v := fun k hk hv => h k hv hk
theorem keep_ap {w w' : World} {base : Nat} {e : TypeId} {s n : Nat} {v u : Value} {xs : List Value} (ho : w.ownsRow base e s v n xs) (ha : Ap v u) (hg : w.grownBy w' u.ownBlock) : w'.ownsRow base e s v n xs := by
  refine ho.kept hg ?_
  rcases ho.2 with ⟨rfl, _⟩ | ⟨g, cap, cur, rfl, _⟩
  · exact .inl rfl
  · exact .inr fun hc => ha g rfl (by rw [← hc]; rfl)
theorem Ap.grow {w : World} {base : Nat} {e : TypeId} {s n : Nat} {v u u' : Value} {xs : List Value} (h : Ap v u) (ho : w.ownsRow base e s v n xs) (hl : u'.ownBlock = u.ownBlock ∨ u'.ownBlock = some w.heap.size) : Ap v u' := fun k hk hu => by
  rcases hl with hl | hl
  · exact h k hk (hl ▸ hu)
  · rw [hl] at hu
    have := (own_in ho hk).2
    injection hu with hu
    omega
structure SpW (w0 w : World) (qv pv lv ov : Value) (qb pb : List UInt8) (pl ol : List Nat) : Prop where
  q : w.ownsRow w0.heap.size 5 1 qv qb.length (bv qb)
  p : w.ownsRow w0.heap.size 5 1 pv pb.length (bv pb)
  l : w.ownsRow w0.heap.size 3 1 lv pl.length (nums (nats pl))
  o : w.ownsRow w0.heap.size 3 1 ov ol.length (nums (nats ol))
  qp : Ap qv pv
  lo : Ap lv ov
  b : Below w0.heap.size w0 w
variable {w0 w w' : World} {qv pv lv ov v' : Value} {qb pb x : List UInt8} {pl ol : List Nat}
theorem SpW.nil (h : Below w0.heap.size w0 w) : SpW w0 w (.slice none 0 0) (.slice none 0 0) (.slice none 0 0) (.slice none 0 0) [] [] [] [] :=
  ⟨World.ownsRow_nil _ _ _ _, World.ownsRow_nil _ _ _ _, World.ownsRow_nil _ _ _ _, World.ownsRow_nil _ _ _ _, (fun k hk => by cases hk), (fun k hk => by cases hk), h⟩
theorem SpW.below (h : SpW w0 w qv pv lv ov qb pb pl ol) (hb : Below w.heap.size w w') : SpW w0 w' qv pv lv ov qb pb pl ol :=
  ⟨own_under h.q hb, own_under h.p hb, own_under h.l hb, own_under h.o hb, h.qp, h.lo, bto h.b hb⟩
theorem SpW.alloc (h : SpW w0 w qv pv lv ov qb pb pl ol) (o : Obj) : SpW w0 (w.alloc o) qv pv lv ov qb pb pl ol := h.below (bone w o)
theorem ap_type {base base' : Nat} {e e' : TypeId} {s s' n n' : Nat} {v u : Value} {xs ys : List Value} (ho : w.ownsRow base e s v n xs) (hp : w.ownsRow base' e' s' u n' ys) (he : e ≠ e') : Ap v u := fun k hk hu => by
  obtain ⟨cs, h1⟩ := own_is ho hk
  obtain ⟨ds, h2⟩ := own_is hp hu
  exact Blk.ne_ h1 h2 he rfl
theorem SpW.growQ (h : SpW w0 w qv pv lv ov qb pb pl ol) {q2 : List UInt8} (ho : w'.ownsRow w0.heap.size 5 1 v' q2.length (bv q2)) (hg : w.grownBy w' qv.ownBlock) (hl : v'.ownBlock = qv.ownBlock ∨ v'.ownBlock = some w.heap.size) : SpW w0 w' v' pv lv ov q2 pb pl ol :=
  ⟨ho, keep_ap h.p h.qp.symm hg, keep_ap h.l (ap_type h.l h.q (by decide)) hg, keep_ap h.o (ap_type h.o h.q (by decide)) hg, (h.qp.symm.grow h.p hl).symm, h.lo, h.b.grown hg h.b.size fun k hk => (own_in h.q hk).1⟩
theorem SpW.growP (h : SpW w0 w qv pv lv ov qb pb pl ol) {p2 : List UInt8} (ho : w'.ownsRow w0.heap.size 5 1 v' p2.length (bv p2)) (hg : w.grownBy w' pv.ownBlock) (hl : v'.ownBlock = pv.ownBlock ∨ v'.ownBlock = some w.heap.size) : SpW w0 w' qv v' lv ov qb p2 pl ol :=
  ⟨keep_ap h.q h.qp hg, ho, keep_ap h.l (ap_type h.l h.p (by decide)) hg, keep_ap h.o (ap_type h.o h.p (by decide)) hg, h.qp.grow h.q hl, h.lo, h.b.grown hg h.b.size fun k hk => (own_in h.p hk).1⟩
theorem SpW.growL (h : SpW w0 w qv pv lv ov qb pb pl ol) {l2 : List Nat} (ho : w'.ownsRow w0.heap.size 3 1 v' l2.length (nums (nats l2))) (hg : w.grownBy w' lv.ownBlock) (hl : v'.ownBlock = lv.ownBlock ∨ v'.ownBlock = some w.heap.size) : SpW w0 w' qv pv v' ov qb pb l2 ol :=
  ⟨keep_ap h.q (ap_type h.q h.l (by decide)) hg, keep_ap h.p (ap_type h.p h.l (by decide)) hg, ho, keep_ap h.o h.lo.symm hg, h.qp, (h.lo.symm.grow h.o hl).symm, h.b.grown hg h.b.size fun k hk => (own_in h.l hk).1⟩
theorem SpW.growO (h : SpW w0 w qv pv lv ov qb pb pl ol) {o2 : List Nat} (ho : w'.ownsRow w0.heap.size 3 1 v' o2.length (nums (nats o2))) (hg : w.grownBy w' ov.ownBlock) (hl : v'.ownBlock = ov.ownBlock ∨ v'.ownBlock = some w.heap.size) : SpW w0 w' qv pv lv v' qb pb pl o2 :=
  ⟨keep_ap h.q (ap_type h.q h.o (by decide)) hg, keep_ap h.p (ap_type h.p h.o (by decide)) hg, keep_ap h.l h.lo hg, ho, h.qp, h.lo.grow h.l hl, h.b.grown hg h.b.size fun k hk => (own_in h.o hk).1⟩
theorem own_u8 {base n m : Nat} {v : Value} {a b : List UInt8} {e : TypeId} (h : w.ownsRow base e 1 v (n + m) (bv a ++ bv b)) (hn : a.length = n) (hm : b.length = m) : w.ownsRow base e 1 v (a ++ b).length (bv (a ++ b)) := by
  have e1 : bv (a ++ b) = bv a ++ bv b := by simp [bv]
  rw [List.length_append, hn, hm, e1]; exact h
theorem own_int {base : Nat} {v : Value} {l : List Nat} {x : Nat} {e : TypeId} (h : w.ownsRow base e 1 v (l.length + 1) (nums (nats l) ++ nums [(x : Int)])) : w.ownsRow base e 1 v (l ++ [x]).length (nums (nats (l ++ [x]))) := by
  have e1 : nums (nats (l ++ [x])) = nums (nats l) ++ nums [(x : Int)] := by simp [nums, nats]
  rw [List.length_append, e1]; exact h
/-- a row of strings beside them -/
theorem strs_keep {base n : Nat} {sv u : Value} {xs ys : List Value} {e : TypeId} {s m b2 : Nat} (ho : w.ownsRow base 9 1 sv n xs) (hp : w.ownsRow b2 e s u m ys) (he : 9 ≠ e) (hg : w.grownBy w' u.ownBlock) : w'.ownsRow base 9 1 sv n xs := keep_ap ho (ap_type ho hp he) hg
end Go.Proofs.YtafdijfbgkcnnaaDoor.wcp
