/- Steps and parts of a grid, as plain laws: a step there is a step back; a numbering of parts is the only one. -/
import Derived.Test.YtnakmganodkliaaDoorGrE
set_option linter.unusedVariables false
set_option linter.unusedSimpArgs false
namespace Go.Proofs.YtnakmganodkliaaDoorAm
open Go

theorem bAt_set {s : List Bool} {x y : Int} {b : Bool} (x0 : 0 ≤ x) (y0 : 0 ≤ y) (yl : y < s.length) : bAt (s.set y.toNat b) x = if x = y then b else bAt s x := by
  unfold bAt
  rw [List.getD_eq_getElem?_getD, List.getD_eq_getElem?_getD, List.getElem?_set]
  by_cases h : x = y
  · subst h
    rw [if_pos rfl, if_pos rfl, if_pos (by omega)]
    rfl
  · rw [if_neg (by omega), if_neg h]

theorem div_mod_of {w q r i : Int} (hr : 0 ≤ r) (hw : r < w) (h : i = q * w + r) : i / w = q ∧ i % w = r := by
  subst h
  constructor
  · rw [Int.add_comm, Int.add_mul_ediv_right _ _ (by omega), Int.ediv_eq_zero_of_lt hr hw]
    omega
  · rw [Int.add_comm, Int.add_mul_emod_self_right, Int.emod_eq_of_lt hr hw]

theorem right_div {w i : Int} (w0 : 1 ≤ w) (h : i % w < w - 1) : (i + 1) / w = i / w ∧ (i + 1) % w = i % w + 1 := by
  have a := Int.emod_nonneg i (show w ≠ 0 by omega)
  have b := Int.ediv_mul_add_emod i w
  exact div_mod_of (by omega) (by omega) (by omega)

theorem left_div {w i : Int} (w0 : 1 ≤ w) (h : 0 < i % w) : (i - 1) / w = i / w ∧ (i - 1) % w = i % w - 1 := by
  have a := Int.emod_lt_of_pos i (show 0 < w by omega)
  have b := Int.ediv_mul_add_emod i w
  exact div_mod_of (by omega) (by omega) (by omega)

theorem down_div {w i : Int} (w0 : 1 ≤ w) : (i + w) / w = i / w + 1 ∧ (i + w) % w = i % w := by
  have a := Int.emod_nonneg i (show w ≠ 0 by omega)
  have c := Int.emod_lt_of_pos i (show 0 < w by omega)
  have b := Int.ediv_mul_add_emod i w
  exact div_mod_of (by omega) (by omega) (by rw [Int.add_mul]; omega)

theorem up_div {w i : Int} (w0 : 1 ≤ w) : (i - w) / w = i / w - 1 ∧ (i - w) % w = i % w := by
  have a := Int.emod_nonneg i (show w ≠ 0 by omega)
  have c := Int.emod_lt_of_pos i (show 0 < w by omega)
  have b := Int.ediv_mul_add_emod i w
  exact div_mod_of (by omega) (by omega) (by rw [Int.sub_mul]; omega)

theorem stepTo_iff {g : Gr} {ok : Bool} {j k : Int} : stepTo g ok j = (k, true) ↔ ok = true ∧ bAt g.B j = false ∧ k = j := by
  unfold stepTo
  cases ok <;> cases bAt g.B j <;> simp [eq_comm]

theorem stepTo_no {g : Gr} {ok : Bool} {j : Int} (h : (stepTo g ok j).2 = false) : (stepTo g ok j).1 = 0 := by
  unfold stepTo at h ⊢
  cases hc : (ok && !bAt g.B j) with
  | true => rw [hc] at h; simp at h
  | false => rfl

theorem stepIn_no {g : Gr} {i y : Int} (h : (stepIn g i y).2 = false) : (stepIn g i y).1 = 0 := by
  unfold stepIn at h ⊢
  split
  · rename_i e; rw [if_pos e] at h; exact stepTo_no h
  rename_i e1; rw [if_neg e1] at h
  split
  · rename_i e; rw [if_pos e] at h; exact stepTo_no h
  rename_i e2; rw [if_neg e2] at h
  split
  · rename_i e; rw [if_pos e] at h; exact stepTo_no h
  rename_i e3; rw [if_neg e3] at h
  split
  · rename_i e; rw [if_pos e] at h; exact stepTo_no h
  · rfl

/-- A step there is a step back. -/
theorem step_back {g : Gr} {i j y : Int} (ho : openF g i = true) (h : stepIn g i y = (j, true)) : 0 ≤ y ∧ y < 4 ∧ openF g j = true ∧ stepIn g j ((y + 2) % 4) = (i, true) := by
  obtain ⟨hc, i0, i1, hb⟩ := open_in ho
  obtain ⟨h1, w1, sz, _⟩ := chk0.1 hc
  have ww := side_iff.1 w1
  have rr := row_in ww.1 i0 i1
  have r4 := right_in ww.1 i0 i1
  have r5 := below_in ww.1 i0 i1
  have r6 : 0 ≤ i / g.w * g.w := Int.mul_nonneg rr.1 (by omega)
  have r7 : 1 ≤ i / g.w → g.w ≤ i / g.w * g.w := fun h => by have := Int.mul_le_mul_of_nonneg_right h (show 0 ≤ g.w by omega); omega
  have hopen : ∀ k, 0 ≤ k → k < g.h * g.w → bAt g.B k = false → openF g k = true := fun k k0 k1 kb => by rw [open_of hc k0 k1, kb]; rfl
  by_cases y0 : y = 0
  · subst y0
    simp only [stepIn, if_true, stepTo_iff, Bool.and_eq_true, decide_eq_true_eq, Bool.not_eq_true'] at h
    obtain ⟨⟨a, b⟩, c, rfl⟩ := h
    obtain ⟨d1, d2⟩ := right_div ww.1 a
    refine ⟨by omega, by omega, hopen _ (by omega) (by omega) c, ?_⟩
    simp [stepIn, stepTo_iff, d2, hb, b]
    omega
  by_cases y1 : y = 1
  · subst y1
    simp only [stepIn, show ¬ (1 : Int) = 0 by omega, if_true, if_false, stepTo_iff, Bool.and_eq_true, decide_eq_true_eq, Bool.not_eq_true'] at h
    obtain ⟨⟨a, b⟩, c, rfl⟩ := h
    obtain ⟨d1, d2⟩ := down_div (i := i) ww.1
    refine ⟨by omega, by omega, hopen _ (by omega) (by omega) c, ?_⟩
    simp [stepIn, stepTo_iff, d1, hb, b]
    omega
  by_cases y2 : y = 2
  · subst y2
    simp only [stepIn, show ¬ (2 : Int) = 0 by omega, show ¬ (2 : Int) = 1 by omega, if_true, if_false, stepTo_iff, Bool.and_eq_true, decide_eq_true_eq, Bool.not_eq_true'] at h
    obtain ⟨⟨a, b⟩, c, rfl⟩ := h
    obtain ⟨d1, d2⟩ := left_div ww.1 a
    refine ⟨by omega, by omega, hopen _ (by omega) (by omega) c, ?_⟩
    simp [stepIn, stepTo_iff, d2, hb, b]
    omega
  by_cases y3 : y = 3
  · subst y3
    simp only [stepIn, show ¬ (3 : Int) = 0 by omega, show ¬ (3 : Int) = 1 by omega, show ¬ (3 : Int) = 2 by omega, if_true, if_false, stepTo_iff, Bool.and_eq_true, decide_eq_true_eq, Bool.not_eq_true'] at h
    obtain ⟨⟨a, b⟩, c, rfl⟩ := h
    obtain ⟨d1, d2⟩ := up_div (i := i) ww.1
    refine ⟨by omega, by omega, hopen _ (by omega) (by omega) c, ?_⟩
    simp [stepIn, stepTo_iff, d1, hb, b]
    omega
  · simp [stepIn, y0, y1, y2, y3] at h

/-- The cells one step away. -/
theorem mem_near {g : Gr} {i j : Int} : ∀ (m : Nat) (y : Int), j ∈ nearFrom g i m y ↔ ∃ y', y ≤ y' ∧ y' < y + m ∧ stepIn g i y' = (j, true)
  | 0, y => by simp [nearFrom]; intro y' a b; omega
  | m + 1, y => by
    simp only [nearFrom, List.mem_append, mem_near m (y + 1)]
    constructor
    · rintro (h | ⟨y', a, b, c⟩)
      · split at h
        · rename_i hs
          simp only [List.mem_singleton] at h
          exact ⟨y, by omega, by omega, Prod.ext h.symm hs⟩
        · simp at h
      · exact ⟨y', by omega, by omega, c⟩
    · rintro ⟨y', a, b, c⟩
      by_cases e : y' = y
      · subst e
        left
        rw [c]
        simp
      · exact .inr ⟨y', by omega, by omega, c⟩

theorem near_back {g : Gr} {i j : Int} (h : j ∈ nearF g i) : openF g i = true ∧ openF g j = true ∧ i ∈ nearF g j := by
  unfold nearF at h
  split at h
  · rename_i ho
    obtain ⟨y, a, b, c⟩ := (mem_near 4 0).1 h
    obtain ⟨_, _, d, e⟩ := step_back ho c
    refine ⟨ho, d, ?_⟩
    unfold nearF
    rw [if_pos d]
    exact (mem_near 4 0).2 ⟨(y + 2) % 4, by omega, by omega, e⟩
  · simp at h

/-- Joined by steps. -/
inductive Rch (g : Gr) : Int → Int → Prop where
  | refl (i : Int) : Rch g i i
  | tail {i j k : Int} : Rch g i j → k ∈ nearF g j → Rch g i k

theorem Rch.trans {g : Gr} {i j k : Int} (h : Rch g i j) (h' : Rch g j k) : Rch g i k := by
  induction h' with
  | refl => exact h
  | tail _ hn ih => exact .tail ih hn

theorem Rch.symm {g : Gr} {i j : Int} (h : Rch g i j) : Rch g j i := by
  induction h with
  | refl => exact .refl _
  | tail _ hn ih => exact (Rch.tail (.refl _) (near_back hn).2.2).trans ih

def pAt (p : List Int) (i : Int) : Int := p.getD i.toNat (-1)

/-- The parts, numbered by their first cells. -/
structure IsParts (g : Gr) (p : List Int) (n : Int) : Prop where
  len : (p.length : Int) = g.h * g.w
  off : ∀ i, 0 ≤ i → i < g.h * g.w → openF g i = false → pAt p i = -1
  lo : ∀ i, openF g i = true → 0 ≤ pAt p i ∧ pAt p i < n
  same : ∀ i j, openF g i = true → openF g j = true → (pAt p i = pAt p j ↔ Rch g i j)
  first : ∀ i, openF g i = true → ∀ c, 0 ≤ c → c < pAt p i → ∃ i', 0 ≤ i' ∧ i' < i ∧ pAt p i' = c
  all : ∀ c, 0 ≤ c → c < n → ∃ i, openF g i = true ∧ pAt p i = c
  n0 : 0 ≤ n

theorem parts_le {g : Gr} {p q : List Int} {n m : Int} (hp : IsParts g p n) (hq : IsParts g q m) : ∀ (k : Nat), ∀ i : Int, 0 ≤ i → i < k → i < g.h * g.w → pAt p i = pAt q i := by
  intro k
  induction k with
  | zero => intro i h0 h1; omega
  | succ k ih =>
    intro i h0 h1 hN
    by_cases hk : i < k
    · exact ih i h0 hk hN
    have hlt : ∀ i', 0 ≤ i' → i' < i → pAt p i' = pAt q i' := fun i' a b => ih i' a (by omega) (by omega)
    rcases Bool.eq_false_or_eq_true (openF g i) with ho | ho
    rotate_left
    · rw [hp.off i h0 hN ho, hq.off i h0 hN ho]
    by_cases hex : ∃ i', 0 ≤ i' ∧ i' < i ∧ openF g i' = true ∧ Rch g i' i
    · obtain ⟨i', a, b, c, d⟩ := hex
      rw [← (hp.same i' i c ho).2 d, ← (hq.same i' i c ho).2 d]
      exact hlt i' a b
    · have key : ∀ {p q : List Int} {n m : Int}, IsParts g p n → IsParts g q m → (∀ i', 0 ≤ i' → i' < i → pAt p i' = pAt q i') → ¬ pAt p i < pAt q i := by
        intro p q n m hp hq hlt hl
        obtain ⟨i', a, b, c⟩ := hq.first i ho (pAt p i) (hp.lo i ho).1 hl
        have hpi : pAt p i' = pAt p i := (hlt i' a b).trans c
        have hoi : openF g i' = true := by
          rcases Bool.eq_false_or_eq_true (openF g i') with h | h
          · exact h
          · have := hp.off i' a (by omega) h
            have := (hp.lo i ho).1
            omega
        exact hex ⟨i', a, b, hoi, (hp.same i' i hoi ho).1 hpi⟩
      have a := key hp hq hlt
      have b := key hq hp (fun i' a b => (hlt i' a b).symm)
      omega

theorem parts_unique {g : Gr} {p q : List Int} {n m : Int} (hp : IsParts g p n) (hq : IsParts g q m) : p = q ∧ n = m := by
  have h := parts_le hp hq
  have hl := hp.len
  have hl' := hq.len
  have e : p = q := by
    apply List.ext_getElem (by omega)
    intro k h1 h2
    have := h (k + 1) k (by omega) (by omega) (by omega)
    unfold pAt at this
    rw [List.getD_eq_getElem?_getD, List.getD_eq_getElem?_getD, Int.toNat_natCast, List.getElem?_eq_getElem h1, List.getElem?_eq_getElem h2] at this
    exact this
  subst e
  refine ⟨rfl, ?_⟩
  have key : ∀ {n m : Int}, IsParts g p n → IsParts g p m → ¬ n < m := by
    intro n m hp hq hl
    obtain ⟨i, a, b⟩ := hq.all n hp.n0 hl
    have := (hp.lo i a).2
    omega
  have a := key hp hq
  have b := key hq hp
  omega

end Go.Proofs.YtnakmganodkliaaDoorAm
