/- What may be called by the laws on parts. -/
import Derived.Test.YtnakmganodkliaaGrK
import Derived.Test.YtnakmganodkliaaGrH
set_option linter.unusedVariables false
set_option linter.unusedSimpArgs false
set_option maxRecDepth 100000
namespace Go.Proofs.YtnakmganodkliaaAm
open Go

noncomputable def spP : Sp := fun f args rd => match f, args with
  | 50, [.agg [.v (.int _ h), .v (.int _ w), b, r, l]] => withG rd h w b r l fun g ls => some { f := 50, args := [g.d], val := .tup [.own 0 0 (partsF g).1.length none, .v (.int .i64 (partsF g).2)], allocs := [.data 3 (.int .i64) (partsF g).1], lent := ls }
  | 51, [.agg [.v (.int _ h), .v (.int _ w), b, r, l]] => withG rd h w b r l fun g ls => some { f := 51, args := [g.d], val := .tup [.own 0 0 (partsF g).1.length none, .v (.int .i64 (partsF g).2)], allocs := [.data 3 (.int .i64) (partsF g).1], lent := ls }
  | f, args => spG true f args rd

theorem fill_ex {g : Gr} {n i : Int} : ∀ (k : Nat) (p : List Int), Cur g p n i → unl p ≤ k → ∃ p', Lab g p' (n + 1) (i + 1) := by
  intro k
  induction k with
  | zero =>
    intro p C hk
    refine ⟨p, C.fin fun x hx hp y hy => ?_⟩
    refine C.beside hx hp hy (Int.not_lt.1 fun hl => ?_)
    have oy := (near_back hy).2.1
    obtain ⟨_, y0, y1, _⟩ := open_in oy
    have := unl_set (p := p) (k := y.toNat) (n := n) C.n0 (by have := C.len; omega) hl
    omega
  | succ k ih =>
    intro p C hk
    by_cases h : ∃ x y, openF g x = true ∧ pAt p x = n ∧ y ∈ nearF g x ∧ pAt p y < 0
    · obtain ⟨x, y, hx, hp, hy, hl⟩ := h
      have oy := (near_back hy).2.1
      obtain ⟨_, y0, y1, _⟩ := open_in oy
      have := unl_set (p := p) (k := y.toNat) (n := n) C.n0 (by have := C.len; omega) hl
      exact ih _ (C.mark hx hp hy hl) (by omega)
    · exact ⟨p, C.fin fun x hx hp y hy => C.beside hx hp hy (Int.not_lt.1 fun hl => h ⟨x, y, hx, hp, hy, hl⟩)⟩

theorem lab_ex {g : Gr} : ∀ (m : Nat) (i n : Int) (p : List Int), Lab g p n i → i + m = g.h * g.w → ∃ pn : List Int × Int, IsParts g pn.1 pn.2 := by
  intro m
  induction m with
  | zero => intro i n p L h; exact ⟨(p, n), L.fin (by omega)⟩
  | succ m ih =>
    intro i n p L h
    by_cases hp : 0 ≤ pAt p i ∨ bAt g.B i = true
    · exact ih (i + 1) n p (L.skip hp) (by omega)
    · have hp1 : pAt p i < 0 := Int.not_le.1 fun h => hp (.inl h)
      have hb : bAt g.B i = false := by
        cases h : bAt g.B i with
        | false => rfl
        | true => exact absurd (.inr h) hp
      have ho : openF g i = true := by rw [open_of L.chk L.i0 (by omega), hb]; rfl
      obtain ⟨p', L'⟩ := fill_ex _ _ (L.begin ho hp1) (Nat.le_refl _)
      exact ih (i + 1) (n + 1) p' L' (by omega)

theorem parts_ex {g : Gr} (hc : checkF g = 0) : ∃ pn : List Int × Int, IsParts g pn.1 pn.2 := by
  have hw := hw_in (chk0.1 hc).1 (chk0.1 hc).2.1
  exact lab_ex (g.h * g.w).toNat 0 0 _ (Lab.start hc) (by omega)

theorem parts_are {g : Gr} (hc : checkF g = 0) : IsParts g (partsF g).1 (partsF g).2 := by
  have hx := parts_ex hc
  unfold partsF
  rw [dif_pos ⟨hc, hx⟩]
  exact Classical.choose_spec hx

theorem parts_off {g : Gr} (hc : checkF g ≠ 0) : partsF g = ([], 0) := by
  unfold partsF
  rw [dif_neg (fun h => hc h.1)]


end Go.Proofs.YtnakmganodkliaaAm
