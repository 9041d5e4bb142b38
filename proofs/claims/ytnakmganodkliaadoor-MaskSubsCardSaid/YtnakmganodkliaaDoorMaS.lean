/- Sets of numbers: subsets in rising order. -/
import Derived.Test.YtnakmganodkliaaDoorMaP
set_option linter.unusedVariables false
set_option linter.unusedSimpArgs false
namespace Go.Proofs.YtnakmganodkliaaDoorAm
open Go

/-- The k-th subset of a set of f bits. -/
def dep : Nat → Nat → Nat → Nat
  | 0, _, _ => 0
  | f + 1, M, k => if M % 2 = 1 then k % 2 + 2 * dep f (M / 2) (k / 2) else 2 * dep f (M / 2) k
/-- How many bits are set. -/
def cnt : Nat → Nat → Nat
  | 0, _ => 0
  | f + 1, M => M % 2 + cnt f (M / 2)

theorem dep_zero : ∀ (f M : Nat), dep f M 0 = 0
  | 0, _ => rfl
  | f + 1, M => by
    unfold dep
    simp [dep_zero f]

theorem dep_le : ∀ (f M k : Nat), M < 2 ^ f → dep f M k ≤ M
  | 0, M, k, h => Nat.zero_le _
  | f + 1, M, k, h => by
    have h1 : M / 2 < 2 ^ f := by rw [Nat.pow_succ] at h; omega
    unfold dep
    split
    · have := dep_le f (M / 2) (k / 2) h1
      omega
    · have := dep_le f (M / 2) k h1
      omega

theorem dep_mono : ∀ (f M k k' : Nat), k < k' → k' < 2 ^ cnt f M → dep f M k < dep f M k'
  | 0, M, k, k', h, h' => by
    unfold cnt at h'
    omega
  | f + 1, M, k, k', h, h' => by
    unfold cnt at h'
    unfold dep
    split
    · rename_i hM
      rw [hM, Nat.add_comm, Nat.pow_succ] at h'
      by_cases he : k / 2 = k' / 2
      · rw [he]
        omega
      · have := dep_mono f (M / 2) (k / 2) (k' / 2) (by omega) (by omega)
        omega
    · rename_i hM
      rw [show M % 2 = 0 by omega, Nat.zero_add] at h'
      have := dep_mono f (M / 2) k k' h h'
      omega

theorem pow_pos2 (n : Nat) : 1 ≤ 2 ^ n := Nat.one_le_two_pow

theorem dep_top : ∀ (f M : Nat), M < 2 ^ f → dep f M (2 ^ cnt f M - 1) = M
  | 0, M, h => by
    have : M = 0 := by simpa using h
    subst this
    rfl
  | f + 1, M, h => by
    have h1 : M / 2 < 2 ^ f := by rw [Nat.pow_succ] at h; omega
    have ih := dep_top f (M / 2) h1
    have hp := pow_pos2 (cnt f (M / 2))
    unfold dep cnt
    split
    · rename_i hM
      rw [hM, Nat.add_comm 1, Nat.pow_succ]
      rw [show (2 ^ cnt f (M / 2) * 2 - 1) / 2 = 2 ^ cnt f (M / 2) - 1 by omega, ih]
      omega
    · rename_i hM
      rw [show M % 2 = 0 by omega, Nat.zero_add, ih]
      omega

theorem and_two (a b x y : Nat) (hx : x < 2) (hy : y < 2) : (2 * a + x) &&& (2 * b + y) = 2 * (a &&& b) + (if x = 1 ∧ y = 1 then 1 else 0) := by
  apply Nat.eq_of_testBit_eq
  intro i
  rw [Nat.testBit_and]
  cases i with
  | zero =>
    simp only [Nat.testBit_zero]
    split
    · rename_i h
      simp [Nat.add_mod, h.1, h.2]
    · rename_i h
      simp only [Nat.mul_add_mod, Nat.mod_eq_of_lt hx, Nat.mod_eq_of_lt hy]
      by_cases h1 : x = 1 <;> by_cases h2 : y = 1 <;> simp [h1, h2] <;> omega
  | succ i =>
    rw [Nat.testBit_succ, Nat.testBit_succ, Nat.testBit_succ]
    rw [show (2 * a + x) / 2 = a by omega, show (2 * b + y) / 2 = b by omega, ← Nat.testBit_and]
    congr 1
    split <;> omega

/-- What stays as it is. -/
theorem dep_stay : ∀ (f M k : Nat), M < 2 ^ f → (2 ^ f - 1 - (M - dep f M k)) &&& M = dep f M k
  | 0, M, k, h => by
    have : M = 0 := by simpa using h
    subst this
    rw [Nat.and_zero]
    rfl
  | f + 1, M, k, h => by
    have hp := pow_pos2 f
    rw [Nat.pow_succ] at h ⊢
    have h1 : M / 2 < 2 ^ f := by omega
    unfold dep
    split
    · rename_i hM
      have ih := dep_stay f (M / 2) (k / 2) h1
      have hl := dep_le f (M / 2) (k / 2) h1
      generalize dep f (M / 2) (k / 2) = d at *
      have e1 : 2 ^ f * 2 - 1 - (M - (k % 2 + 2 * d)) = 2 * (2 ^ f - 1 - (M / 2 - d)) + k % 2 := by omega
      have e2 : M = 2 * (M / 2) + 1 := by omega
      rw [e1]
      conv => lhs; rhs; rw [e2]
      rw [and_two _ _ _ _ (by omega) (by omega), ih]
      split <;> omega
    · rename_i hM
      have ih := dep_stay f (M / 2) k h1
      have hl := dep_le f (M / 2) k h1
      generalize dep f (M / 2) k = d at *
      have e1 : 2 ^ f * 2 - 1 - (M - 2 * d) = 2 * (2 ^ f - 1 - (M / 2 - d)) + 1 := by omega
      have e2 : M = 2 * (M / 2) + 0 := by omega
      rw [e1]
      conv => lhs; rhs; rw [e2]
      rw [and_two _ _ _ _ (by omega) (by omega), ih]
      simp

/-- **The next subset.** -/
theorem dep_next : ∀ (f M k : Nat), M < 2 ^ f → k + 1 < 2 ^ cnt f M → (dep f M k + 2 ^ f - M) &&& M = dep f M (k + 1)
  | 0, M, k, h, hk => by
    unfold cnt at hk
    omega
  | f + 1, M, k, h, hk => by
    have hp := pow_pos2 f
    rw [Nat.pow_succ] at h ⊢
    have h1 : M / 2 < 2 ^ f := by omega
    unfold cnt at hk
    unfold dep
    split
    · rename_i hM
      rw [hM, Nat.add_comm 1, Nat.pow_succ] at hk
      have e2 : M = 2 * (M / 2) + 1 := by omega
      by_cases he : k % 2 = 0
      · have hs := dep_stay f (M / 2) (k / 2) h1
        have hl := dep_le f (M / 2) (k / 2) h1
        rw [show (k + 1) / 2 = k / 2 by omega, show (k + 1) % 2 = 1 by omega]
        generalize dep f (M / 2) (k / 2) = d at *
        have e1 : k % 2 + 2 * d + 2 ^ f * 2 - M = 2 * (2 ^ f - 1 - (M / 2 - d)) + 1 := by omega
        rw [e1]
        conv => lhs; rhs; rw [e2]
        rw [and_two _ _ _ _ (by omega) (by omega), hs]
        simp
        omega
      · have ih := dep_next f (M / 2) (k / 2) h1 (by omega)
        have hl := dep_le f (M / 2) (k / 2) h1
        rw [show (k + 1) / 2 = k / 2 + 1 by omega, show (k + 1) % 2 = 0 by omega]
        rw [← ih]
        generalize dep f (M / 2) (k / 2) = d at *
        have e1 : k % 2 + 2 * d + 2 ^ f * 2 - M = 2 * (d + 2 ^ f - M / 2) + 0 := by omega
        rw [e1]
        conv => lhs; rhs; rw [e2]
        rw [and_two _ _ _ _ (by omega) (by omega)]
        simp
    · rename_i hM
      rw [show M % 2 = 0 by omega, Nat.zero_add] at hk
      have e2 : M = 2 * (M / 2) + 0 := by omega
      have ih := dep_next f (M / 2) k h1 hk
      have hl := dep_le f (M / 2) k h1
      rw [← ih]
      generalize dep f (M / 2) k = d at *
      have e1 : 2 * d + 2 ^ f * 2 - M = 2 * (d + 2 ^ f - M / 2) + 0 := by omega
      rw [e1]
      conv => lhs; rhs; rw [e2]
      rw [and_two _ _ _ _ (by omega) (by omega)]
      simp

/-- The k-th subset of the numbers of a list. -/
def depL : List Int → Nat → Nat
  | [], _ => 0
  | x :: xs, k => (if k % 2 = 1 then 2 ^ x.toNat else 0) + depL xs (k / 2)

theorem depL_dep (m : Nat) : ∀ (f i k : Nat), depL (lstF f i m) k = 2 ^ i * dep f (m / 2 ^ i) k
  | 0, i, k => rfl
  | f + 1, i, k => by
    have ih := fun k => depL_dep m f (i + 1) k
    have hb : m.testBit i = decide (m / 2 ^ i % 2 = 1) := by rw [Nat.testBit_eq_decide_div_mod_eq]
    have e : m / 2 ^ (i + 1) = m / 2 ^ i / 2 := by rw [Nat.pow_succ, Nat.div_div_eq_div_mul]
    unfold lstF dep
    by_cases h : m / 2 ^ i % 2 = 1
    · rw [if_pos h]
      rw [show m.testBit i = true by rw [hb]; exact decide_eq_true h]
      rw [if_pos rfl]
      show (if k % 2 = 1 then 2 ^ ((i : Int)).toNat else 0) + depL (lstF f (i + 1) m) (k / 2) = _
      rw [ih, e, Nat.pow_succ]
      simp only [Int.toNat_natCast]
      rcases Nat.mod_two_eq_zero_or_one k with h2 | h2
      · rw [h2]; simp [Nat.mul_assoc]
      · rw [h2]; simp [Nat.mul_assoc, Nat.mul_add]
    · rw [if_neg h]
      rw [show m.testBit i = false by rw [hb]; exact decide_eq_false h]
      rw [if_neg (by simp)]
      show depL (lstF f (i + 1) m) k = _
      rw [ih, e, Nat.pow_succ]
      simp [Nat.mul_assoc]

theorem cnt_len (m : Nat) : ∀ (f i : Nat), (lstF f i m).length = cnt f (m / 2 ^ i)
  | 0, i => rfl
  | f + 1, i => by
    have ih := cnt_len m f (i + 1)
    have hb : m.testBit i = decide (m / 2 ^ i % 2 = 1) := by rw [Nat.testBit_eq_decide_div_mod_eq]
    have e : m / 2 ^ (i + 1) = m / 2 ^ i / 2 := by rw [Nat.pow_succ, Nat.div_div_eq_div_mul]
    unfold lstF cnt
    by_cases h : m / 2 ^ i % 2 = 1
    · rw [show m.testBit i = true by rw [hb]; exact decide_eq_true h]
      rw [e] at ih
      simp [ih]
      omega
    · rw [show m.testBit i = false by rw [hb]; exact decide_eq_false h]
      rw [e] at ih
      simp [ih]
      omega

/-- The k-th subset of a set. -/
def subN (m k : Nat) : Nat := depL (listN m) k

theorem subN_dep (m k : Nat) : subN m k = dep 64 m k := by
  unfold subN listN
  rw [depL_dep]
  simp
theorem cnt_list (m : Nat) : cnt 64 m = (listN m).length := by
  unfold listN
  rw [cnt_len]
  simp

theorem subN_zero (m : Nat) : subN m 0 = 0 := by rw [subN_dep, dep_zero]
theorem subN_le {m k : Nat} (h : m < W64) : subN m k ≤ m := by rw [subN_dep]; exact dep_le 64 m k h
theorem subN_mono {m k k' : Nat} (h : k < k') (h' : k' < 2 ^ (listN m).length) : subN m k < subN m k' := by
  rw [subN_dep, subN_dep]
  exact dep_mono 64 m k k' h (by rw [cnt_list]; exact h')
theorem subN_top {m : Nat} (h : m < W64) : subN m (2 ^ (listN m).length - 1) = m := by
  rw [subN_dep, ← cnt_list]
  exact dep_top 64 m h
theorem subN_next {m k : Nat} (h : m < W64) (hk : k + 1 < 2 ^ (listN m).length) : (subN m k + W64 - m) &&& m = subN m (k + 1) := by
  rw [subN_dep, subN_dep]
  exact dep_next 64 m k h (by rw [cnt_list]; exact hk)
theorem subN_in {m k : Nat} (h : m < W64) : subN m k &&& m = subN m k := by
  have := dep_stay 64 m k h
  rw [← subN_dep] at this
  rw [← this]
  apply Nat.eq_of_testBit_eq
  intro i
  simp only [Nat.testBit_and]
  cases (Nat.testBit m i) <;> simp

/-- The subsets, rising. -/
def subs (m : Nat) : List Nat := (List.range (2 ^ (listN m).length)).map (subN m)

end Go.Proofs.YtnakmganodkliaaDoorAm
