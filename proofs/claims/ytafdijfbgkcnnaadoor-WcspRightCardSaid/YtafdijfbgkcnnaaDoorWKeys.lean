/- A tuple's key in the reader's map: its numbers, each with a space behind; the lines, round by round: plain. -/
import Derived.Test.YtafdijfbgkcnnaaDoorWPlain
import Derived.Test.YtafdijfbgkcnnaaDoorScPlain
import Derived.Lib.ItoaLen
namespace Go.Proofs.YtafdijfbgkcnnaaDoor.wcp
open Go Go.Proofs.YtafdijfbgkcnnaaDoor.scn
set_option linter.unusedVariables false
def keyB (l : List Int) : List UInt8 := l.flatMap fun v => Lib.itoa v ++ [32]
theorem keyB_snoc (l : List Int) (v : Int) : keyB (l ++ [v]) = keyB l ++ (Lib.itoa v ++ [32]) := by simp [keyB]
theorem keyB_len : ∀ (l : List Int), (∀ v ∈ l, (Lib.itoa v).length ≤ 21) → (keyB l).length ≤ 22 * l.length := by
  intro l
  induction l with
  | nil => intro _; exact Nat.le_refl _
  | cons v l ih =>
    intro h
    have h1 := h v (by simp)
    have h2 := ih fun x hx => h x (by simp [hx])
    have e : keyB (v :: l) = (Lib.itoa v ++ [32]) ++ keyB l := rfl
    rw [e]
    simp only [List.length_append, List.length_cons, List.length_nil]
    omega
/-- up to the first space -/
theorem cut_space : ∀ {a b x y : List UInt8}, (∀ c ∈ a, c ≠ 32) → (∀ c ∈ b, c ≠ 32) → a ++ (32 :: x) = b ++ (32 :: y) → a = b ∧ x = y := by
  intro a
  induction a with
  | nil =>
    intro b x y ha hb h
    cases b with
    | nil => injection h with _ h; exact ⟨rfl, h⟩
    | cons c b =>
      rw [List.nil_append, List.cons_append] at h
      injection h with h1 _
      exact absurd h1.symm (hb c (by simp))
  | cons d a ih =>
    intro b x y ha hb h
    cases b with
    | nil =>
      rw [List.nil_append, List.cons_append] at h
      injection h with h1 _
      exact absurd h1 (ha d (by simp))
    | cons c b =>
      rw [List.cons_append, List.cons_append] at h
      injection h with h1 h2
      obtain ⟨rfl, h4⟩ := ih (fun c hc => ha c (by simp [hc])) (fun c hc => hb c (by simp [hc])) h2
      exact ⟨by rw [h1], h4⟩
theorem keyB_inj (hs : ∀ v : Int, ∀ c ∈ Lib.itoa v, c ≠ 32) (lim : Int → Prop) (hi : ∀ u v, lim u → lim v → Lib.itoa u = Lib.itoa v → u = v) :
    ∀ {a b : List Int}, (∀ v ∈ a, lim v) → (∀ v ∈ b, lim v) → keyB a = keyB b → a = b := by
  intro a
  induction a with
  | nil =>
    intro b _ _ h
    cases b with
    | nil => rfl
    | cons v b =>
      have e : keyB (v :: b) = Lib.itoa v ++ (32 :: keyB b) := by simp [keyB]
      rw [e] at h
      have := congrArg List.length h
      simp [keyB] at this
  | cons u a ih =>
    intro b ha hb h
    have e1 : keyB (u :: a) = Lib.itoa u ++ (32 :: keyB a) := by simp [keyB]
    cases b with
    | nil =>
      rw [e1] at h
      have := congrArg List.length h
      simp [keyB] at this
    | cons v b =>
      have e2 : keyB (v :: b) = Lib.itoa v ++ (32 :: keyB b) := by simp [keyB]
      rw [e1, e2] at h
      obtain ⟨h1, h2⟩ := cut_space (hs u) (hs v) h
      rw [hi u v (ha u (by simp)) (hb v (by simp)) h1, ih (fun x hx => ha x (by simp [hx])) (fun x hx => hb x (by simp [hx])) h2]
/-! ### round by round -/
variable {en ee : Int}
theorem Res.bind_assoc {α β γ : Type} (r : Res α) (f : α → Ps → Res β) (g : β → Ps → Res γ) : (r.bind f).bind g = r.bind fun a s => (f a s).bind g := by cases r <;> rfl
theorem Res.bind_id {α : Type} (r : Res α) : (r.bind fun a s => .ok a s) = r := by cases r <;> rfl
def Res.good {α : Type} : Res α → Bool | .ok _ _ => true | .bad _ _ => false
theorem ptup_acc : ∀ (ks : List Int) (out : List Int) (s : Ps), ptup en ee ks out s = (ptup en ee ks [] s).bind fun t s => .ok (out ++ t) s := by
  intro ks
  induction ks with
  | nil => intro out s; show Res.ok out s = Res.ok (out ++ []) s; rw [List.append_nil]
  | cons k ks ih =>
    intro out s
    unfold ptup
    rw [Res.bind_assoc]
    congr 1
    funext v s'
    rw [ih (out ++ [v.1]), ih ([] ++ [v.1]), Res.bind_assoc]
    congr 1
    funext t s''
    rw [Res.bind_ok, List.append_assoc]; rfl
theorem ptup_snoc : ∀ (ks : List Int) (k : Int) (s : Ps), ptup en ee (ks ++ [k]) [] s = (ptup en ee ks [] s).bind fun t s => (pnum en ee 0 (k - 1) s).bind fun v s => .ok (t ++ [v.1]) s := by
  intro ks
  have : ∀ (ks : List Int) (k : Int) (out : List Int) (s : Ps), ptup en ee (ks ++ [k]) out s = (ptup en ee ks out s).bind fun t s => (pnum en ee 0 (k - 1) s).bind fun v s => .ok (t ++ [v.1]) s := by
    intro ks
    induction ks with
    | nil => intro k out s; rfl
    | cons x ks ih =>
      intro k out s
      rw [List.cons_append]
      show (pnum en ee 0 (x - 1) s).bind _ = ((pnum en ee 0 (x - 1) s).bind _).bind _
      rw [Res.bind_assoc]
      congr 1
      funext v s'
      exact ih k _ s'
  exact fun k s => this ks k [] s
/-- one line more -/
def pline (sizes : List Int) (out : List (List Int × Int)) (s : Ps) : Res (List (List Int × Int)) :=
  (ptup en ee sizes [] s).bind fun t s => (pnum en ee 0 far s).bind fun c s => if t ∈ out.map Prod.fst then .bad 4 c.2 else .ok (out ++ [(t, c.1)]) s
theorem plines_snoc (sizes : List Int) : ∀ (k : Nat) (out : List (List Int × Int)) (s : Ps), plines en ee sizes (k + 1) out s = (plines en ee sizes k out s).bind fun out s => pline (en := en) (ee := ee) sizes out s := by
  intro k
  induction k with
  | zero =>
    intro out s
    show _ = pline sizes out s
    rfl
  | succ k ih =>
    intro out s
    show ((ptup en ee sizes [] s).bind _) = (((ptup en ee sizes [] s).bind _)).bind _
    rw [Res.bind_assoc]
    congr 1
    funext t s
    rw [Res.bind_assoc]
    congr 1
    funext c s
    by_cases h : t ∈ out.map Prod.fst
    · rw [if_pos h, if_pos h]; rfl
    · rw [if_neg h, if_neg h]; exact ih _ _
theorem plines_bad (sizes : List Int) {e x : Int} {i : Nat} {s : Ps} (h : plines en ee sizes i [] s = .bad e x) : ∀ n, i ≤ n → plines en ee sizes n [] s = .bad e x := by
  intro n hn
  induction n with
  | zero => rw [show i = 0 by omega] at h; exact h
  | succ n ih =>
    rcases Nat.lt_or_eq_of_le hn with h1 | h1
    · rw [plines_snoc, ih (by omega)]; rfl
    · rw [← h1]; exact h
theorem pnum_ok {lo hi : Int} {s s' : Ps} {v : Int × Int} (h : pnum en ee lo hi s = .ok v s') : lo ≤ v.1 ∧ v.1 ≤ hi ∧ s'.sh = s.sh ∧ s'.told = s.told ∧ s'.big = s.big ∧ s'.l.length + 1 = s.l.length := by
  obtain ⟨l, b, t, sh⟩ := s
  unfold pnum pword at h
  cases l with
  | nil => cases h
  | cons w r =>
    dsimp only at h
    rw [Res.bind_ok] at h
    split at h
    · cases h
    · rename_i hh
      injection h with h1 h2
      subst h1 h2
      refine ⟨?_, ?_, rfl, rfl, rfl, rfl⟩ <;> dsimp only <;> omega
theorem ptup_ok : ∀ (ks : List Int) {s s' : Ps} {t : List Int}, ptup en ee ks [] s = .ok t s' → t.length = ks.length ∧ (∀ v ∈ t, 0 ≤ v) ∧ s'.sh = s.sh ∧ s'.told = s.told ∧ s'.l.length + ks.length = s.l.length := by
  intro ks
  induction ks with
  | nil => intro s s' t h; injection h with h1 h2; subst h1 h2; simp
  | cons k ks ih =>
    intro s s' t h
    unfold ptup at h
    cases hp : pnum en ee 0 (k - 1) s with
    | bad e x => rw [hp] at h; cases h
    | ok v s1 =>
      rw [hp, Res.bind_ok, ptup_acc] at h
      obtain ⟨p1, p2, p3, p4, p5, p6⟩ := pnum_ok hp
      cases hq : ptup en ee ks [] s1 with
      | bad e x => rw [hq] at h; cases h
      | ok t2 s2 =>
        rw [hq, Res.bind_ok] at h
        injection h with h1 h2
        subst h1 h2
        obtain ⟨q1, q2, q3, q4, q5⟩ := ih hq
        refine ⟨by simp [q1], fun x hx => ?_, q3.trans p3, q4.trans p4, by simp; omega⟩
        rcases List.mem_append.1 hx with hx | hx
        · simp at hx; rw [hx]; exact p1
        · exact q2 x hx
theorem pline_ok {sizes : List Int} {out out' : List (List Int × Int)} {s s' : Ps} (h : pline (en := en) (ee := ee) sizes out s = .ok out' s') :
    ∃ t c, out' = out ++ [(t, c)] ∧ t ∉ out.map Prod.fst ∧ t.length = sizes.length ∧ s'.sh = s.sh ∧ s'.told = s.told ∧ s'.l.length + 1 ≤ s.l.length ∧ 0 ≤ c ∧ c ≤ far := by
  unfold pline at h
  cases hp : ptup en ee sizes [] s with
  | bad e x => rw [hp] at h; cases h
  | ok t s1 =>
    rw [hp, Res.bind_ok] at h
    cases hq : pnum en ee 0 far s1 with
    | bad e x => rw [hq] at h; cases h
    | ok c s2 =>
      rw [hq, Res.bind_ok] at h
      obtain ⟨p1, p2, p3, p4, p5⟩ := ptup_ok _ hp
      obtain ⟨q1, q2, q3, q4, q5, q6⟩ := pnum_ok hq
      split at h
      · cases h
      · rename_i hn
        injection h with h1 h2
        subst h1 h2
        exact ⟨t, c.1, rfl, hn, p1, q3.trans p3, q4.trans p4, by omega, q1, q2⟩
theorem plines_ok {sizes : List Int} : ∀ (k : Nat) {s s' : Ps} {out : List (List Int × Int)}, plines en ee sizes k [] s = .ok out s' → out.length = k ∧ s'.sh = s.sh ∧ s'.told = s.told ∧ s'.l.length + k ≤ s.l.length := by
  intro k
  induction k with
  | zero => intro s s' out h; injection h with h1 h2; subst h1 h2; simp
  | succ k ih =>
    intro s s' out h
    rw [plines_snoc] at h
    cases hp : plines en ee sizes k [] s with
    | bad e x => rw [hp] at h; cases h
    | ok o s1 =>
      rw [hp, Res.bind_ok] at h
      obtain ⟨p1, p2, p3, p4⟩ := ih hp
      obtain ⟨t, c, rfl, _, _, q3, q4, q5, _⟩ := pline_ok h
      exact ⟨by simp [p1], q3.trans p2, q4.trans p3, by omega⟩
theorem plarge_l (is : Bool) (x : Int) (s : Ps) : (plarge is x s).l = s.l ∧ (plarge is x s).sh = s.sh ∧ (plarge is x s).told = s.told := by
  unfold plarge; split <;> exact ⟨rfl, rfl, rfl⟩
theorem pall_ok {sizes : List Int} {s s' : Ps} {out : List (List Int × Int)} (h : pall en ee sizes s = .ok out s') (h0 : 0 ≤ s.told) : s'.sh = s.sh ∧ s'.l.length + 1 ≤ s.l.length ∧ 0 ≤ s'.told ∧ s'.told + s'.l.length ≤ s.told + s.l.length := by
  unfold pall at h
  cases hp : pnum en ee (-far) far s with
  | bad e x => rw [hp] at h; cases h
  | ok n s1 =>
    rw [hp, Res.bind_ok] at h
    obtain ⟨p1, p2, p3, p4, p5, p6⟩ := pnum_ok hp
    split at h
    · split at h
      · cases h
      · split at h
        · injection h with h1 h2
          subst h1 h2
          exact ⟨p3, by omega, by omega, by omega⟩
        · cases h
    · obtain ⟨q1, q2, q3, q4⟩ := plines_ok _ h
      obtain ⟨l1, l2, l3⟩ := plarge_l (decide (min (s1.told + n.1) far > 16384)) n.2 { s1 with told := min (s1.told + n.1) far }
      rw [l1] at q4
      rw [l2] at q2
      rw [l3] at q3
      dsimp only at q2 q3 q4
      have : (0 : Int) ≤ far := by decide
      refine ⟨q2.trans p3, by omega, by omega, by omega⟩
theorem pscope_ok (n : Int) : ∀ (k : Nat) {out out' : List Int} {s s' : Ps}, pscope en ee n k out s = .ok out' s' → out'.length = out.length + k ∧ s'.sh = s.sh ∧ s'.told = s.told ∧ s'.big = s.big ∧ s'.l.length + k = s.l.length ∧ ((∀ v ∈ out, 0 ≤ v ∧ v < n) → ∀ v ∈ out', 0 ≤ v ∧ v < n) ∧ (out.Nodup → out'.Nodup) := by
  intro k
  induction k with
  | zero => intro out out' s s' h; injection h with h1 h2; subst h1 h2; exact ⟨by simp, rfl, rfl, rfl, by simp, id, id⟩
  | succ k ih =>
    intro out out' s s' h
    unfold pscope at h
    cases hp : pnum en ee 0 (n - 1) s with
    | bad e x => rw [hp] at h; cases h
    | ok v s1 =>
      rw [hp, Res.bind_ok] at h
      obtain ⟨p1, p2, p3, p4, p5, p6⟩ := pnum_ok hp
      split at h
      · cases h
      · rename_i hm
        obtain ⟨q1, q2, q3, q4, q5, q6, q7⟩ := ih h
        refine ⟨by rw [q1]; simp; omega, q2.trans p3, q3.trans p4, q4.trans p5, by omega, fun hh => q6 fun x hx => ?_, fun hh => q7 ?_⟩
        · rcases List.mem_append.1 hx with hx | hx
          · exact hh x hx
          · simp at hx; subst hx; omega
        · rw [List.nodup_append]
          refine ⟨hh, by simp, fun a ha b hb => ?_⟩
          simp at hb; subst hb
          exact fun e => hm (by rw [← e]; exact ha)
end Go.Proofs.YtafdijfbgkcnnaaDoor.wcp
