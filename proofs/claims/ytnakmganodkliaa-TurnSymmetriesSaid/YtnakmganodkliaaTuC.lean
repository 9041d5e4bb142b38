/- The order of grids and the least of the turned ones, as plain laws. -/
import Derived.Test.YtnakmganodkliaaTuB
set_option linter.unusedVariables false
set_option linter.unusedSimpArgs false
set_option maxRecDepth 100000
namespace Go.Proofs.YtnakmganodkliaaAm
open Go

def cmpL : List Bool → List Bool → Int
  | a :: A, b :: B => if a && !b then -1 else if b && !a then 1 else cmpL A B
  | _, _ => 0

theorem cmp_self : ∀ A : List Bool, cmpL A A = 0
  | [] => rfl
  | a :: A => by cases a <;> simp [cmpL, cmp_self A]

theorem cmp_eq : ∀ {A B : List Bool}, A.length = B.length → cmpL A B = 0 → A = B
  | [], [], _, _ => rfl
  | [], _ :: _, h, _ => by simp at h
  | _ :: _, [], h, _ => by simp at h
  | a :: A, b :: B, h, e => by
    have ih := cmp_eq (A := A) (B := B) (by simpa using h)
    cases a <;> cases b <;> simp [cmpL] at e ⊢ <;> exact ih e

theorem cmp_neg : ∀ {A B : List Bool}, A.length = B.length → cmpL B A = - cmpL A B
  | [], [], _ => rfl
  | [], _ :: _, h => by simp at h
  | _ :: _, [], h => by simp at h
  | a :: A, b :: B, h => by
    have ih := cmp_neg (A := A) (B := B) (by simpa using h)
    cases a <;> cases b <;> simp [cmpL] <;> exact ih

theorem cmp_trans : ∀ {A B C : List Bool}, A.length = B.length → B.length = C.length → cmpL A B ≤ 0 → cmpL B C ≤ 0 → cmpL A C ≤ 0 ∧ (cmpL A B < 0 ∨ cmpL B C < 0 → cmpL A C < 0)
  | [], [], [], _, _, _, _ => by simp [cmpL]
  | [], _ :: _, _, h, _, _, _ => by simp at h
  | _ :: _, [], _, h, _, _, _ => by simp at h
  | [], [], _ :: _, _, h, _, _ => by simp at h
  | _ :: _, _ :: _, [], _, h, _, _ => by simp at h
  | a :: A, b :: B, c :: C, h1, h2, h3, h4 => by
    have ih := cmp_trans (A := A) (B := B) (C := C) (by simpa using h1) (by simpa using h2)
    cases a <;> cases b <;> cases c <;> simp [cmpL] at h3 h4 ⊢ <;> exact ih h3 h4

theorem cmp_app : ∀ {A A' X X' : List Bool}, A.length = A'.length → cmpL (A ++ X) (A' ++ X') = if cmpL A A' = 0 then cmpL X X' else cmpL A A'
  | [], [], _, _, _ => by simp [cmpL]
  | [], _ :: _, _, _, h => by simp at h
  | _ :: _, [], _, _, h => by simp at h
  | a :: A, b :: B, X, X', h => by
    have ih := cmp_app (A := A) (A' := B) (X := X) (X' := X') (by simpa using h)
    cases a <;> cases b <;> simp [cmpL] <;> exact ih

def lessF (a b : Gr) : Bool :=
  if a.h ≠ b.h ∨ a.w ≠ b.w then decide (a.h < b.h) || (decide (a.h = b.h) && decide (a.w < b.w))
  else if cmpL a.B b.B ≠ 0 then decide (cmpL a.B b.B < 0) else if cmpL a.R b.R ≠ 0 then decide (cmpL a.R b.R < 0) else if cmpL a.L b.L ≠ 0 then decide (cmpL a.L b.L < 0) else false

/-- All its lists, one behind the other. -/
def Gr.all (g : Gr) : List Bool := g.B ++ (g.R ++ g.L)

theorem less_iff {a b : Gr} (ha : Right a) (hb : Right b) : lessF a b = true ↔ a.h < b.h ∨ (a.h = b.h ∧ a.w < b.w) ∨ (a.h = b.h ∧ a.w = b.w ∧ cmpL a.all b.all < 0) := by
  unfold lessF
  by_cases hd : a.h ≠ b.h ∨ a.w ≠ b.w
  · rw [if_pos hd]
    simp only [Bool.or_eq_true, Bool.and_eq_true, decide_eq_true_eq]
    omega
  · rw [if_neg hd]
    have e1 : a.h = b.h := by omega
    have e2 : a.w = b.w := by omega
    have := ha.b; have := hb.b; have := ha.r; have := hb.r
    rw [e1, e2] at *
    unfold Gr.all
    rw [cmp_app (by omega), cmp_app (by omega)]
    simp only [true_and]
    by_cases c1 : cmpL a.B b.B = 0 <;> by_cases c2 : cmpL a.R b.R = 0 <;> by_cases c3 : cmpL a.L b.L = 0 <;> simp [c1, c2, c3] <;> omega

theorem all_len {a b : Gr} (ha : Right a) (hb : Right b) (e1 : a.h = b.h) (e2 : a.w = b.w) : a.all.length = b.all.length := by
  have := ha.b; have := hb.b; have := ha.r; have := hb.r; have := ha.l; have := hb.l
  rw [e1, e2] at *
  simp only [Gr.all, List.length_append]
  omega

theorem less_irr {a : Gr} (ha : Right a) : lessF a a = false := by
  rw [← Bool.not_eq_true, less_iff ha ha, cmp_self]
  omega

theorem less_trans {a b c : Gr} (ha : Right a) (hb : Right b) (hc : Right c) (h1 : lessF a b = true) (h2 : lessF b c = true) : lessF a c = true := by
  rw [less_iff ha hb] at h1
  rw [less_iff hb hc] at h2
  rw [less_iff ha hc]
  rcases h1 with h | ⟨h, h'⟩ | ⟨h, h', h''⟩ <;> rcases h2 with k | ⟨k, k'⟩ | ⟨k, k', k''⟩ <;> try omega
  have := (cmp_trans (all_len ha hb h h') (all_len hb hc k k') (by omega) (by omega)).2 (.inl h'')
  omega

theorem less_eq {a b : Gr} (ha : Right a) (hb : Right b) (h1 : lessF a b = false) (h2 : lessF b a = false) : a = b := by
  rw [← Bool.not_eq_true, less_iff ha hb] at h1
  rw [← Bool.not_eq_true, less_iff hb ha] at h2
  have e1 : a.h = b.h := by omega
  have e2 : a.w = b.w := by omega
  have hl := all_len ha hb e1 e2
  have hn := cmp_neg hl
  have := ha.b; have := hb.b; have := ha.r; have := hb.r
  have e : a.all = b.all := cmp_eq hl (by omega)
  unfold Gr.all at e
  have hs : a.h * a.w = b.h * b.w := by rw [e1, e2]
  obtain ⟨x, y⟩ := List.append_inj e (by omega)
  obtain ⟨y, z⟩ := List.append_inj y (by omega)
  exact gr_eq.2 ⟨e1, e2, x, y, z⟩

/-- The search for the least one. -/
def canonFrom (g : Gr) : Nat → Int → Gr → Int → Gr × Int
  | 0, _, best, at' => (best, at')
  | m + 1, k, best, at' => if lessF (turnF g k) best then canonFrom g m (k + 1) (turnF g k) k else canonFrom g m (k + 1) best at'

def canonF (g : Gr) : Gr × Int := canonFrom g 7 1 g 0

theorem canon_from {g : Gr} (R : Right g) : ∀ (m : Nat) (k : Int) (best : Gr) (at' : Int), k + m = 8 → 1 ≤ k → (0 ≤ at' ∧ at' < k) → best = turnF g at' → (∀ j, 0 ≤ j → j < k → lessF (turnF g j) best = false) →
    (0 ≤ (canonFrom g m k best at').2 ∧ (canonFrom g m k best at').2 < 8) ∧ (canonFrom g m k best at').1 = turnF g (canonFrom g m k best at').2 ∧ ∀ j, 0 ≤ j → j < 8 → lessF (turnF g j) (canonFrom g m k best at').1 = false
  | 0, k, best, at', hk, k1, ha, hb, hl => by
    simp only [canonFrom]
    exact ⟨⟨by omega, by omega⟩, hb, fun j a b => hl j a (by omega)⟩
  | m + 1, k, best, at', hk, k1, ha, hb, hl => by
    have rk : Right (turnF g k) := turn_right R ⟨by omega, by omega⟩
    have rb : Right best := hb ▸ turn_right R ⟨by omega, by omega⟩
    simp only [canonFrom]
    split
    · rename_i h
      refine canon_from R m (k + 1) _ k (by omega) (by omega) (by omega) rfl (fun j a b => ?_)
      by_cases hj : j = k
      · rw [hj]; exact less_irr rk
      · rw [← Bool.not_eq_true]
        intro hx
        have := less_trans (turn_right R ⟨a, by omega⟩) rk rb hx h
        rw [hl j a (by omega)] at this
        cases this
    · rename_i h
      refine canon_from R m (k + 1) best at' (by omega) (by omega) (by omega) hb (fun j a b => ?_)
      by_cases hj : j = k
      · rw [hj]; simpa using h
      · exact hl j a (by omega)

theorem canon_least {g : Gr} (R : Right g) : (0 ≤ (canonF g).2 ∧ (canonF g).2 < 8) ∧ (canonF g).1 = turnF g (canonF g).2 ∧ ∀ j, 0 ≤ j → j < 8 → lessF (turnF g j) (canonF g).1 = false := by
  refine canon_from R 7 1 g 0 (by omega) (by omega) (by omega) (turn_zero R).symm (fun j a b => ?_)
  have : j = 0 := by omega
  subst this
  rw [turn_zero R]
  exact less_irr R

theorem canon_right {g : Gr} (R : Right g) : Right (canonF g).1 := by
  obtain ⟨a, b, _⟩ := canon_least R
  rw [b]
  exact turn_right R a

theorem canon_turn {g : Gr} {k : Int} (R : Right g) (k1 : 0 ≤ k ∧ k < 8) : (canonF (turnF g k)).1 = (canonF g).1 := by
  have Rk := turn_right R k1
  obtain ⟨a, b, c⟩ := canon_least R
  obtain ⟨a', b', c'⟩ := canon_least Rk
  have bk := back_facts k1
  refine less_eq (canon_right Rk) (canon_right R) ?_ ?_
  · rw [b', turn_turn R k1 a']
    exact c _ (then_in k1 a').1 (then_in k1 a').2
  · have e : turnF (turnF g k) (thenF (backF k) (canonF g).2) = (canonF g).1 := by
      rw [turn_turn R k1 (then_in bk.1 a), ← then_assoc k1 bk.1 a, bk.2.1, (back_facts a).2.2.2.2, ← b]
    rw [← e]
    exact c' _ (then_in bk.1 a).1 (then_in bk.1 a).2

theorem canon_canon {g : Gr} (R : Right g) : canonF (canonF g).1 = ((canonF g).1, 0) := by
  obtain ⟨a, b, c⟩ := canon_least R
  have Rc := canon_right R
  have stay : ∀ (m : Nat) (k : Int), 1 ≤ k → k + m = 8 → canonFrom (canonF g).1 m k (canonF g).1 0 = ((canonF g).1, 0) := by
    intro m
    induction m with
    | zero => intro k _ _; rfl
    | succ m ih =>
      intro k k1 hk
      have hl : lessF (turnF (canonF g).1 k) (canonF g).1 = false := by
        have e : turnF (canonF g).1 k = turnF g (thenF (canonF g).2 k) := by
          rw [b, turn_turn R a ⟨by omega, by omega⟩]
        have ti := then_in (b := k) a ⟨by omega, by omega⟩
        rw [e]
        exact c _ ti.1 ti.2
      simp only [canonFrom, hl, Bool.false_eq_true, if_false]
      exact ih (k + 1) (by omega) (by omega)
  exact stay 7 1 (by omega) (by omega)

end Go.Proofs.YtnakmganodkliaaAm
