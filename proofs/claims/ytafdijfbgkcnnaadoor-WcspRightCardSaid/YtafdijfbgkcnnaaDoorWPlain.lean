/- The text of a network, read: plain. One pure reader that the program's and the document's follow. -/
import Derived.Test.YtafdijfbgkcnnaaDoorScPlain
namespace Go.Proofs.YtafdijfbgkcnnaaDoor.wcp
open Go Go.Proofs.YtafdijfbgkcnnaaDoor.scn
set_option linter.unusedVariables false
/-- what is left: words; the first thing too large; how many lines were told; what is shared -/
structure Ps where
  l : List Wd
  big : Option Int
  told : Int
  sh : List (List Int × List (List Int × Int))
inductive Res (α : Type) where
  | ok (a : α) (s : Ps)
  | bad (e at_ : Int)
def Res.bind {α β : Type} (r : Res α) (f : α → Ps → Res β) : Res β := match r with | .ok a s => f a s | .bad e x => .bad e x
theorem Res.bind_ok {α β : Type} (a : α) (s : Ps) (f : α → Ps → Res β) : (Res.ok a s).bind f = f a s := rfl
theorem Res.bind_bad {α β : Type} (e x : Int) (f : α → Ps → Res β) : (Res.bad e x : Res α).bind f = .bad e x := rfl
def far : Int := 4611686018427387904
structure Raw where
  scope : List Int
  sizes : List Int
  other : Int
  lines : List (List Int × Int)
section
variable (en ee : Int)
def pword (s : Ps) : Res Wd := match s.l with | [] => .bad ee en | w :: r => .ok w { s with l := r }
def pnum (lo hi : Int) (s : Ps) : Res (Int × Int) :=
  (pword en ee s).bind fun w s => if (readW w.1).2 ≠ 0 ∨ (readW w.1).1 < lo ∨ (readW w.1).1 > hi then .bad 4 w.2 else .ok ((readW w.1).1, (w.2 : Int)) s
def plarge (is : Bool) (x : Int) (s : Ps) : Ps := if is = true ∧ s.big = none then { s with big := some x } else s
def pscope (n : Int) : Nat → List Int → Ps → Res (List Int)
  | 0, out, s => .ok out s
  | k + 1, out, s => (pnum en ee 0 (n - 1) s).bind fun v s => if v.1 ∈ out then .bad 4 v.2 else pscope n k (out ++ [v.1]) s
def ptup : List Int → List Int → Ps → Res (List Int)
  | [], out, s => .ok out s
  | k :: ks, out, s => (pnum en ee 0 (k - 1) s).bind fun v s => ptup ks (out ++ [v.1]) s
def plines (sizes : List Int) : Nat → List (List Int × Int) → Ps → Res (List (List Int × Int))
  | 0, out, s => .ok out s
  | k + 1, out, s => (ptup en ee sizes [] s).bind fun t s => (pnum en ee 0 far s).bind fun c s => if t ∈ out.map Prod.fst then .bad 4 c.2 else plines sizes k (out ++ [(t, c.1)]) s
def pall (sizes : List Int) (s : Ps) : Res (List (List Int × Int)) :=
  (pnum en ee (-far) far s).bind fun n s =>
    if n.1 < 0 then
      (match s.sh[(-n.1 - 1).toNat]? with
       | none => .bad 4 n.2
       | some x => if x.1 = sizes then .ok x.2 s else .bad 4 n.2)
    else plines en ee sizes n.1.toNat [] (plarge (decide (min (s.told + n.1) far > 16384)) n.2 { s with told := min (s.told + n.1) far })
/-- more tuples than a table may have -/
def great (l : List Int) : Bool := decide (l.foldl (fun n k => min (n * min k 4097) 4097) 1 > 4096)
def pfun (all : List Int) (s : Ps) : Res Raw :=
  (pnum en ee (-far) far s).bind fun a s =>
  (pscope en ee all.length a.1.natAbs [] s).bind fun sc s =>
  (pnum en ee 0 far (plarge (decide ((a.1.natAbs : Int) > 6) || great (sc.map fun v => all.getD v.toNat 0)) a.2 s)).bind fun o s =>
  (pall en ee (sc.map fun v => all.getD v.toNat 0) s).bind fun ls s =>
  .ok ⟨sc, sc.map fun v => all.getD v.toNat 0, o.1, ls⟩ (if a.1 < 0 then { s with sh := s.sh ++ [(sc.map fun v => all.getD v.toNat 0, ls)] } else s)
def psizes (most : Int) : Nat → List Int → Ps → Res (List Int)
  | 0, out, s => .ok out s
  | k + 1, out, s => (pnum en ee 1 most s).bind fun v s => psizes most k (out ++ [v.1]) (plarge (decide (v.1 > 32)) v.2 s)
def pfuns (all : List Int) : Nat → List Raw → Ps → Res (List Raw)
  | 0, out, s => .ok out s
  | k + 1, out, s => (pfun en ee all s).bind fun f s => pfuns all k (out ++ [f]) s
/-- a file, as it was told -/
structure Fil where
  name : List UInt8
  k : Int
  sizes : List Int
  funs : List Raw
def pbody (s : Ps) : Res Fil :=
  (pword en ee s).bind fun w s =>
  (pnum en ee 1 far (plarge (decide (w.1.length > 64)) w.2 s)).bind fun n s =>
  (pnum en ee 1 far (plarge (decide (n.1 > 64)) n.2 s)).bind fun most s =>
  (pnum en ee 0 far s).bind fun count s =>
  (pnum en ee 1 far (plarge (decide (count.1 > 256)) count.2 s)).bind fun k s =>
  (psizes en ee most.1 n.1.toNat [] (plarge (decide (k.1 > 2147483648)) k.2 s)).bind fun sizes s =>
  (pfuns en ee sizes count.1.toNat [] s).bind fun fs s =>
  .ok ⟨w.1, k.1, sizes, fs⟩ s
inductive Out where
  | err (e at_ : Int)
  | file (f : Fil)
/-- all of it: nothing stands behind -/
def pread (l : List Wd) : Out :=
  match pbody en ee ⟨l, none, 0, []⟩ with
  | .bad e x => .err e x
  | .ok f s => match s.l with
    | w :: _ => .err 4 w.2
    | [] => if ee = 11 then .err 11 en else match s.big with
      | some x => .err 5 x
      | none => .file f
end
/-! ### More words behind change nothing that is wrong ahead of the end -/
def Ps.more (s : Ps) (l2 : List Wd) : Ps := { s with l := s.l ++ l2 }
/-- f at s, and with more words: alike, unless the end was met -/
def Alike {α : Type} (en ee : Int) (l2 : List Wd) (r r2 : Res α) : Prop :=
  (∃ a s, r = .ok a s ∧ r2 = .ok a (s.more l2)) ∨ (∃ e x, r = .bad e x ∧ r2 = .bad e x) ∨ r = .bad ee en
theorem Alike.bind {α β : Type} {en ee : Int} {l2 : List Wd} {r r2 : Res α} {f f2 : α → Ps → Res β} (h : Alike en ee l2 r r2) (hf : ∀ a s, Alike en ee l2 (f a s) (f2 a (s.more l2))) : Alike en ee l2 (r.bind f) (r2.bind f2) := by
  rcases h with ⟨a, s, rfl, rfl⟩ | ⟨e, x, rfl, rfl⟩ | rfl
  · exact hf a s
  · exact .inr (.inl ⟨e, x, rfl, rfl⟩)
  · exact .inr (.inr rfl)
theorem Alike.ok {α : Type} {en ee : Int} {l2 : List Wd} (a : α) (s : Ps) : Alike en ee l2 (.ok a s) (.ok a (s.more l2)) := .inl ⟨a, s, rfl, rfl⟩
theorem Alike.bad {α : Type} {en ee : Int} {l2 : List Wd} (e x : Int) : Alike en ee l2 (.bad e x : Res α) (.bad e x) := .inr (.inl ⟨e, x, rfl, rfl⟩)
variable {en ee en2 ee2 : Int} {l2 : List Wd}
theorem pword_more (s : Ps) : Alike en ee l2 (pword en ee s) (pword en2 ee2 (s.more l2)) := by
  obtain ⟨l, b, t, sh⟩ := s
  cases l with
  | nil => exact .inr (.inr rfl)
  | cons w r => exact .inl ⟨w, _, rfl, rfl⟩
theorem pnum_more (lo hi : Int) (s : Ps) : Alike en ee l2 (pnum en ee lo hi s) (pnum en2 ee2 lo hi (s.more l2)) := by
  unfold pnum
  refine (pword_more s).bind fun w s => ?_
  by_cases h : (readW w.1).2 ≠ 0 ∨ (readW w.1).1 < lo ∨ (readW w.1).1 > hi
  · rw [if_pos h, if_pos h]; exact .bad _ _
  · rw [if_neg h, if_neg h]; exact .ok _ _
theorem plarge_more (is : Bool) (x : Int) (s : Ps) : plarge is x (s.more l2) = (plarge is x s).more l2 := by
  unfold plarge Ps.more
  by_cases h : is = true ∧ s.big = none
  · rw [if_pos h, if_pos h]
  · rw [if_neg h, if_neg h]
theorem pscope_more (n : Int) (k : Nat) : ∀ (out : List Int) (s : Ps), Alike en ee l2 (pscope en ee n k out s) (pscope en2 ee2 n k out (s.more l2)) := by
  induction k with
  | zero => intro out s; exact .ok _ _
  | succ k ih =>
    intro out s
    unfold pscope
    refine (pnum_more _ _ s).bind fun v s => ?_
    by_cases h : v.1 ∈ out
    · rw [if_pos h, if_pos h]; exact .bad _ _
    · rw [if_neg h, if_neg h]; exact ih _ _
theorem ptup_more (ks : List Int) : ∀ (out : List Int) (s : Ps), Alike en ee l2 (ptup en ee ks out s) (ptup en2 ee2 ks out (s.more l2)) := by
  induction ks with
  | nil => intro out s; exact .ok _ _
  | cons k ks ih =>
    intro out s
    unfold ptup
    exact (pnum_more _ _ s).bind fun v s => ih _ _
theorem plines_more (sizes : List Int) (k : Nat) : ∀ (out : List (List Int × Int)) (s : Ps), Alike en ee l2 (plines en ee sizes k out s) (plines en2 ee2 sizes k out (s.more l2)) := by
  induction k with
  | zero => intro out s; exact .ok _ _
  | succ k ih =>
    intro out s
    unfold plines
    refine (ptup_more sizes [] s).bind fun t s => (pnum_more _ _ s).bind fun c s => ?_
    by_cases h : t ∈ out.map Prod.fst
    · rw [if_pos h, if_pos h]; exact .bad _ _
    · rw [if_neg h, if_neg h]; exact ih _ _
theorem pall_more (sizes : List Int) (s : Ps) : Alike en ee l2 (pall en ee sizes s) (pall en2 ee2 sizes (s.more l2)) := by
  unfold pall
  refine (pnum_more _ _ s).bind fun n s => ?_
  by_cases h : n.1 < 0
  · rw [if_pos h, if_pos h]
    show Alike en ee l2 _ (match s.sh[(-n.1 - 1).toNat]? with | none => .bad 4 n.2 | some x => if x.1 = sizes then .ok x.2 (s.more l2) else .bad 4 n.2)
    cases hx : s.sh[(-n.1 - 1).toNat]? with
    | none => exact .bad _ _
    | some x =>
      dsimp only
      by_cases h2 : x.1 = sizes
      · rw [if_pos h2, if_pos h2]; exact .ok _ _
      · rw [if_neg h2, if_neg h2]; exact .bad _ _
  · rw [if_neg h, if_neg h]
    have := plines_more (en := en) (ee := ee) (en2 := en2) (ee2 := ee2) (l2 := l2) sizes n.1.toNat [] (plarge (decide (min (s.told + n.1) far > 16384)) n.2 { s with told := min (s.told + n.1) far })
    rw [← plarge_more] at this
    exact this
theorem pfun_more (all : List Int) (s : Ps) : Alike en ee l2 (pfun en ee all s) (pfun en2 ee2 all (s.more l2)) := by
  unfold pfun
  refine (pnum_more _ _ s).bind fun a s => (pscope_more _ _ _ s).bind fun sc s => ?_
  rw [plarge_more]
  refine (pnum_more _ _ _).bind fun o s => (pall_more _ s).bind fun ls s => ?_
  by_cases h : a.1 < 0
  · rw [if_pos h, if_pos h]; exact .inl ⟨_, _, rfl, rfl⟩
  · rw [if_neg h, if_neg h]; exact .ok _ _
theorem psizes_more (most : Int) (k : Nat) : ∀ (out : List Int) (s : Ps), Alike en ee l2 (psizes en ee most k out s) (psizes en2 ee2 most k out (s.more l2)) := by
  induction k with
  | zero => intro out s; exact .ok _ _
  | succ k ih =>
    intro out s
    unfold psizes
    refine (pnum_more _ _ s).bind fun v s => ?_
    rw [plarge_more]
    exact ih _ _
theorem pfuns_more (all : List Int) (k : Nat) : ∀ (out : List Raw) (s : Ps), Alike en ee l2 (pfuns en ee all k out s) (pfuns en2 ee2 all k out (s.more l2)) := by
  induction k with
  | zero => intro out s; exact .ok _ _
  | succ k ih =>
    intro out s
    unfold pfuns
    exact (pfun_more _ s).bind fun f s => ih _ _
theorem pbody_more (s : Ps) : Alike en ee l2 (pbody en ee s) (pbody en2 ee2 (s.more l2)) := by
  unfold pbody
  refine (pword_more s).bind fun w s => ?_
  rw [plarge_more]
  refine (pnum_more _ _ _).bind fun n s => ?_
  rw [plarge_more]
  refine (pnum_more _ _ _).bind fun most s => (pnum_more _ _ _).bind fun count s => ?_
  rw [plarge_more]
  refine (pnum_more _ _ _).bind fun k s => ?_
  rw [plarge_more]
  exact (psizes_more _ _ _ _).bind fun sizes s => (pfuns_more _ _ _ _).bind fun fs s => .ok _ _
/-- WcspPlaces, plainly: what is malformed ahead of the end is so with more words behind -/
theorem pread_more {l : List Wd} {e x : Int} (h : pread en ee l = .err e x) (h4 : e ≠ 5) (hx : (e, x) ≠ (ee, en)) (h11 : ee = 11 → (e, x) ≠ (11, en)) : pread en2 ee2 (l ++ l2) = .err e x := by
  have hm := pbody_more (en := en) (ee := ee) (en2 := en2) (ee2 := ee2) (l2 := l2) ⟨l, none, 0, []⟩
  unfold pread at h ⊢
  have e0 : (⟨l ++ l2, none, 0, []⟩ : Ps) = Ps.more ⟨l, none, 0, []⟩ l2 := rfl
  rw [e0]
  rcases hm with ⟨f, s, h1, h2⟩ | ⟨e', x', h1, h2⟩ | h1
  · rw [h1] at h
    rw [h2]
    obtain ⟨sl, sb, st, ss⟩ := s
    cases sl with
    | cons w r => exact h
    | nil =>
      exfalso
      dsimp only at h
      by_cases he : ee = 11
      · rw [if_pos he] at h
        injection h with h3 h4'
        exact h11 he (by rw [h3, h4'])
      · rw [if_neg he] at h
        cases sb with
        | none => exact Out.noConfusion h
        | some b => injection h with h3 _; exact h4 h3.symm
  · rw [h1] at h; rw [h2]; exact h
  · rw [h1] at h
    injection h with h3 h4'
    exact absurd (by rw [← h3, ← h4']) hx
end Go.Proofs.YtafdijfbgkcnnaaDoor.wcp
