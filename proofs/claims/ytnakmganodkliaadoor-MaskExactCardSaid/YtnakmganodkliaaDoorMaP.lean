/- Sets of numbers from 0 to 63, as plain laws. -/
import Derived.Test.YtnakmganodkliaaDoorGl
import Derived.WalkKit
set_option linter.unusedVariables false
set_option linter.unusedSimpArgs false
namespace Go.Proofs.YtnakmganodkliaaDoorAm
open Go

abbrev W64 : Nat := 18446744073709551616

theorem wrU {n : Int} (h0 : 0 ≤ n) (h1 : n < 18446744073709551616) : IntKind.u64.wrap n = n := by
  have : IntKind.u64.wrap n = n % 18446744073709551616 := by
    unfold IntKind.wrap
    simp [IntKind.bits, IntKind.signed]
  rw [this]; omega

theorem andU {a b : Nat} (ha : a < W64) (hb : b < W64) : (BitVec.ofInt 64 (a : Int) &&& BitVec.ofInt 64 (b : Int)).toNat = a &&& b := by

  rw [BitVec.ofInt_natCast, BitVec.ofInt_natCast, BitVec.toNat_and, BitVec.toNat_ofNat, BitVec.toNat_ofNat, Nat.mod_eq_of_lt ha, Nat.mod_eq_of_lt hb]

theorem orU {a b : Nat} (ha : a < W64) (hb : b < W64) : (BitVec.ofInt 64 (a : Int) ||| BitVec.ofInt 64 (b : Int)).toNat = a ||| b := by

  rw [BitVec.ofInt_natCast, BitVec.ofInt_natCast, BitVec.toNat_or, BitVec.toNat_ofNat, BitVec.toNat_ofNat, Nat.mod_eq_of_lt ha, Nat.mod_eq_of_lt hb]

theorem and_lt {a b : Nat} (ha : a < W64) : a &&& b < W64 := Nat.lt_of_le_of_lt Nat.and_le_left ha
theorem or_lt {a b : Nat} (ha : a < W64) (hb : b < W64) : a ||| b < W64 := Nat.or_lt_two_pow (n := 64) ha hb

/-- The numbers of a set, rising. -/
def lstF : Nat → Nat → Nat → List Int
  | 0, _, _ => []
  | f + 1, i, m => (if m.testBit i then [(i : Int)] else []) ++ lstF f (i + 1) m
def listN (m : Nat) : List Int := lstF 64 0 m

def hasN (m : Nat) (i : Int) : Bool := decide (0 ≤ i) && (decide (i < 64) && m.testBit i.toNat)

def ofA : Nat → List Int → Nat
  | acc, [] => acc
  | acc, x :: xs => ofA (if 0 ≤ x ∧ x < 64 then acc ||| 2 ^ x.toNat else acc) xs
def ofN (l : List Int) : Nat := ofA 0 l

def fullN (n : Int) : Nat := if n < 1 then 0 else if 63 < n then 2 ^ 64 - 1 else 2 ^ n.toNat - 1
def bitN (i : Int) : Nat := if i < 0 ∨ 63 < i then 0 else 2 ^ i.toNat

theorem min_bit : ∀ (m : Nat), m ≠ 0 → ∃ t, m.testBit t = true ∧ ∀ i, i < t → m.testBit i = false
  | m, h => by
    by_cases h1 : m % 2 = 1
    · exact ⟨0, by rw [Nat.testBit_zero]; simpa using h1, fun i hi => by omega⟩
    · have h2 : m / 2 ≠ 0 := by omega
      obtain ⟨t, ht, hl⟩ := min_bit (m / 2) h2
      refine ⟨t + 1, by rw [Nat.testBit_succ]; exact ht, fun i hi => ?_⟩
      cases i with
      | zero => rw [Nat.testBit_zero]; simpa using h1
      | succ i => rw [Nat.testBit_succ]; exact hl i (by omega)
termination_by m => m
decreasing_by omega

theorem low_split {m t : Nat} (ht : m.testBit t = true) (hl : ∀ i, i < t → m.testBit i = false) : ∃ q, m = 2 ^ (t + 1) * q + 2 ^ t := by
  have h0 : m % 2 ^ t = 0 := by
    apply Nat.eq_of_testBit_eq
    intro i
    rw [Nat.testBit_mod_two_pow, Nat.zero_testBit]
    by_cases hi : i < t
    · rw [hl i hi]; simp
    · simp [hi]
  have h1 : m / 2 ^ t % 2 = 1 := by
    rw [Nat.testBit_eq_decide_div_mod_eq] at ht
    exact of_decide_eq_true ht
  refine ⟨m / 2 ^ t / 2, ?_⟩
  have h2 := Nat.div_add_mod m (2 ^ t)
  have h3 := Nat.div_add_mod (m / 2 ^ t) 2
  rw [h1] at h3
  rw [h0, Nat.add_zero] at h2
  have e : m / 2 ^ t = 2 * (m / 2 ^ t / 2) + 1 := by omega
  calc m = 2 ^ t * (m / 2 ^ t) := h2.symm
    _ = 2 ^ t * (2 * (m / 2 ^ t / 2) + 1) := by rw [← e]
    _ = 2 ^ (t + 1) * (m / 2 ^ t / 2) + 2 ^ t := by rw [Nat.mul_add, Nat.pow_succ, Nat.mul_assoc, Nat.mul_one]

theorem pred_bits {m t : Nat} (ht : m.testBit t = true) (hl : ∀ i, i < t → m.testBit i = false) (i : Nat) : (m - 1).testBit i = if i < t then true else if i = t then false else m.testBit i := by
  obtain ⟨q, hq⟩ := low_split ht hl
  have hp : 0 < 2 ^ t := Nat.two_pow_pos t
  have hp2 : 2 ^ (t + 1) = 2 * 2 ^ t := by rw [Nat.pow_succ]; omega
  have e1 : m - 1 = 2 ^ (t + 1) * q + (2 ^ t - 1) := by omega
  rw [e1, Nat.testBit_two_pow_mul_add q (by omega)]
  by_cases h1 : i < t + 1
  · rw [if_pos h1, Nat.testBit_two_pow_sub_one]
    by_cases h2 : i < t
    · rw [if_pos h2]; simpa using h2
    · rw [if_neg h2, if_pos (by omega)]; simpa using h2
  · rw [if_neg h1, if_neg (by omega), if_neg (by omega), hq, Nat.testBit_two_pow_mul_add q (by omega), if_neg h1]

theorem and_pred {m t : Nat} (ht : m.testBit t = true) (hl : ∀ i, i < t → m.testBit i = false) (i : Nat) : (m &&& (m - 1)).testBit i = (m.testBit i && decide (i ≠ t)) := by
  rw [Nat.testBit_and, pred_bits ht hl]
  by_cases h1 : i < t
  · rw [if_pos h1, hl i h1]; rfl
  · rw [if_neg h1]
    by_cases h2 : i = t
    · rw [if_pos h2]; simp [h2]
    · rw [if_neg h2]; simp [h2]

theorem and_neg {m t : Nat} (h0 : m < W64) (ht : m.testBit t = true) (hl : ∀ i, i < t → m.testBit i = false) : t < 64 ∧ m &&& (W64 - m) = 2 ^ t := by
  have hlt : t < 64 := by
    rcases Nat.lt_or_ge t 64 with h | h
    · exact h
    · have : m < 2 ^ t := Nat.lt_of_lt_of_le (show m < 2 ^ 64 from h0) (Nat.pow_le_pow_right (by omega) h)
      rw [Nat.testBit_lt_two_pow this] at ht
      cases ht
  have hm : m ≠ 0 := by rintro rfl; simp at ht
  refine ⟨hlt, ?_⟩
  apply Nat.eq_of_testBit_eq
  intro i
  have e : W64 - m = 2 ^ 64 - ((m - 1) + 1) := by show 2 ^ 64 - m = _; omega
  rw [Nat.testBit_and, e, Nat.testBit_two_pow_sub_succ (show m - 1 < 2 ^ 64 by have : m < 2 ^ 64 := h0; omega), pred_bits ht hl, Nat.testBit_two_pow]
  by_cases h1 : i < t
  · rw [hl i h1]; simp; omega
  · rw [if_neg h1]
    by_cases h2 : i = t
    · subst h2; simp [ht, hlt]
    · rw [if_neg h2]
      cases m.testBit i <;> simp <;> omega

theorem lst_same {m m' : Nat} : ∀ (f i : Nat), (∀ j, i ≤ j → j < i + f → m.testBit j = m'.testBit j) → lstF f i m = lstF f i m'
  | 0, _, _ => rfl
  | f + 1, i, h => by
    simp only [lstF]
    rw [h i (by omega) (by omega), lst_same f (i + 1) (fun j a b => h j (by omega) (by omega))]

theorem lst_none {m : Nat} : ∀ (f i : Nat), (∀ j, i ≤ j → j < i + f → m.testBit j = false) → lstF f i m = []
  | 0, _, _ => rfl
  | f + 1, i, h => by
    simp only [lstF]
    rw [h i (by omega) (by omega), lst_none f (i + 1) (fun j a b => h j (by omega) (by omega))]
    rfl

theorem lst_add (m : Nat) : ∀ (a b i : Nat), lstF (a + b) i m = lstF a i m ++ lstF b (i + a) m
  | 0, b, i => by simp [lstF]
  | a + 1, b, i => by
    rw [show a + 1 + b = (a + b) + 1 by omega]
    simp only [lstF]
    rw [lst_add m a b (i + 1), List.append_assoc, show i + 1 + a = i + (a + 1) by omega]

/-- The lowest number is taken away. -/
theorem list_step {m : Nat} (h : m ≠ 0) (h0 : m < W64) : ∃ t : Nat, t < 64 ∧ m &&& (W64 - m) = 2 ^ t ∧ listN m = (t : Int) :: listN (m &&& (m - 1)) := by
  obtain ⟨t, ht, hl⟩ := min_bit m h
  obtain ⟨hlt, hneg⟩ := and_neg h0 ht hl
  refine ⟨t, hlt, hneg, ?_⟩
  have key : ∀ x, listN x = lstF t 0 x ++ (lstF 1 t x ++ lstF (63 - t) (t + 1) x) := by
    intro x
    unfold listN
    rw [show 64 = t + (1 + (63 - t)) by omega, lst_add, lst_add]
    simp only [Nat.zero_add]
  rw [key m, key (m &&& (m - 1)), lst_none t 0 (fun j _ hj => hl j (by omega)), lst_none t 0 (fun j _ hj => by rw [and_pred ht hl, hl j (by omega)]; rfl)]
  simp only [lstF, List.nil_append, List.append_nil]
  have hs : lstF (63 - t) (t + 1) m = lstF (63 - t) (t + 1) (m &&& (m - 1)) := lst_same _ _ (fun j hj _ => by
    rw [and_pred ht hl]
    have : j ≠ t := by omega
    simp [this])
  rw [ht, and_pred ht hl, hs]
  simp

theorem list_zero : listN 0 = [] := by decide

theorem lst_len (m : Nat) : ∀ f i, (lstF f i m).length ≤ f
  | 0, _ => by simp [lstF]
  | f + 1, i => by
    have := lst_len m f (i + 1)
    simp only [lstF, List.length_append]
    split <;> simp only [List.length_cons, List.length_nil] <;> omega

theorem list_len (m : Nat) : (listN m).length ≤ 64 := lst_len m 64 0

theorem mem_lst {m : Nat} {x : Int} : ∀ {f i : Nat}, x ∈ lstF f i m ↔ (i : Int) ≤ x ∧ x < (i + f : Nat) ∧ m.testBit x.toNat = true
  | 0, i => by
    simp only [lstF, List.not_mem_nil, false_iff]
    omega
  | f + 1, i => by
    simp only [lstF, List.mem_append, mem_lst (f := f)]
    constructor
    · rintro (h | h)
      · split at h
        · rename_i hb
          rw [List.mem_singleton.1 h]
          exact ⟨by omega, by omega, hb⟩
        · simp at h
      · exact ⟨by omega, by omega, h.2.2⟩
    · rintro ⟨h1, h2, h3⟩
      by_cases e : x = i
      · subst e
        rw [Int.toNat_natCast] at h3
        rw [h3]
        exact .inl (by simp)
      · exact .inr ⟨by omega, by omega, h3⟩

theorem mem_list {m : Nat} {x : Int} : x ∈ listN m ↔ hasN m x = true := by
  unfold listN hasN
  rw [mem_lst]
  simp only [Bool.and_eq_true, decide_eq_true_eq]
  constructor
  · rintro ⟨a, b, c⟩
    exact ⟨by omega, by omega, c⟩
  · rintro ⟨a, b, c⟩
    exact ⟨by omega, by omega, c⟩

theorem lst_rise (m : Nat) : ∀ f i, (lstF f i m).Pairwise (· < ·)
  | 0, _ => by simp [lstF]
  | f + 1, i => by
    simp only [lstF]
    refine List.pairwise_append.2 ⟨by split <;> simp, lst_rise m f (i + 1), fun a ha b hb => ?_⟩
    have := (mem_lst.1 hb).1
    split at ha
    · rw [List.mem_singleton.1 ha]; omega
    · simp at ha

theorem of_bits : ∀ (l : List Int) (acc : Nat) (j : Nat), (ofA acc l).testBit j = (acc.testBit j || (decide (j < 64) && decide ((j : Int) ∈ l)))
  | [], acc, j => by simp [ofA]
  | x :: xs, acc, j => by
    simp only [ofA]
    rw [of_bits xs]
    split
    · rename_i h
      rw [Nat.testBit_or, Nat.testBit_two_pow]
      by_cases e : x.toNat = j
      · have e2 : (j : Int) = x := by omega
        have : j < 64 := by omega
        simp [e, e2, this]
      · have e2 : ¬ (j : Int) = x := by omega
        simp [e, e2]
    · rename_i h
      by_cases hj : j < 64
      · have e2 : ¬ (j : Int) = x := by omega
        simp [hj, e2]
      · simp [hj]

theorem of_lt : ∀ (l : List Int) (acc : Nat), acc < W64 → ofA acc l < W64
  | [], acc, h => h
  | x :: xs, acc, h => by
    simp only [ofA]
    refine of_lt xs _ ?_
    split
    · rename_i hx
      exact or_lt h (show 2 ^ x.toNat < 2 ^ 64 from Nat.pow_lt_pow_right (by omega) (by omega))
    · exact h

theorem of_list {m : Nat} (h : m < W64) : ofN (listN m) = m := by
  apply Nat.eq_of_testBit_eq
  intro j
  unfold ofN
  rw [of_bits, Nat.zero_testBit, Bool.false_or]
  rcases Nat.lt_or_ge j 64 with hj | hj
  · rw [decide_eq_true hj, Bool.true_and]
    cases hb : m.testBit j with
    | true => exact decide_eq_true (mem_list.2 (by unfold hasN; rw [Int.toNat_natCast, hb]; simp; omega))
    | false => exact decide_eq_false (fun hm => by
        have := mem_list.1 hm
        unfold hasN at this
        rw [Int.toNat_natCast, hb] at this
        simp at this)
  · have : m < 2 ^ j := Nat.lt_of_lt_of_le (show m < 2 ^ 64 from h) (Nat.pow_le_pow_right (by omega) hj)
    rw [Nat.testBit_lt_two_pow this]
    simp; omega

theorem has_of {l : List Int} {x : Int} : hasN (ofN l) x = true ↔ x ∈ l ∧ 0 ≤ x ∧ x < 64 := by
  unfold hasN ofN
  rw [of_bits, Nat.zero_testBit, Bool.false_or]
  simp only [Bool.and_eq_true, decide_eq_true_eq]
  constructor
  · rintro ⟨h0, h1, h2, h3⟩
    exact ⟨by rwa [Int.toNat_of_nonneg h0] at h3, h0, h1⟩
  · rintro ⟨h1, h2, h3⟩
    exact ⟨h2, h3, by omega, by rwa [Int.toNat_of_nonneg h2]⟩

theorem add_or {a i : Nat} (h : a.testBit i = false) : a + 2 ^ i = a ||| 2 ^ i := by
  have h1 : a / 2 ^ i % 2 = 0 := by
    rw [Nat.testBit_eq_decide_div_mod_eq] at h
    have := of_decide_eq_false h
    omega
  have hp : 0 < 2 ^ i := Nat.two_pow_pos i
  have hr : a % 2 ^ i < 2 ^ i := Nat.mod_lt _ hp
  have hp2 : 2 ^ (i + 1) = 2 ^ i * 2 := Nat.pow_succ 2 i
  have ea : a = 2 ^ (i + 1) * (a / 2 ^ i / 2) + a % 2 ^ i := by
    have h2 := Nat.div_add_mod a (2 ^ i)
    have h3 := Nat.div_add_mod (a / 2 ^ i) 2
    rw [h1, Nat.add_zero] at h3
    rw [hp2, Nat.mul_assoc, h3, h2]
  apply Nat.eq_of_testBit_eq
  intro j
  have el : a + 2 ^ i = 2 ^ (i + 1) * (a / 2 ^ i / 2) + (2 ^ i * 1 + a % 2 ^ i) := by omega
  rw [el, Nat.testBit_two_pow_mul_add _ (by omega), Nat.testBit_or, Nat.testBit_two_pow]
  conv => rhs; rw [ea]
  rw [Nat.testBit_two_pow_mul_add _ hr, Nat.testBit_two_pow_mul_add _ (show a % 2 ^ i < 2 ^ (i + 1) by omega)]
  by_cases h1 : j < i + 1
  · rw [if_pos h1, if_pos h1]
    by_cases h2 : j < i
    · rw [if_pos h2]
      have : ¬ i = j := by omega
      simp [this]
    · have : i = j := by omega
      subst this
      rw [if_neg h2]
      simp
  · rw [if_neg h1, if_neg h1]
    have : ¬ i = j := by omega
    simp [this]

theorem has_div {m : Nat} {i : Int} (h0 : 0 ≤ i) (h1 : i ≤ 63) : hasN m i = decide ((m : Int) / ((2 ^ i.toNat : Nat) : Int) % 2 = 1) := by
  unfold hasN
  rw [decide_eq_true h0, decide_eq_true (show i < 64 by omega), Nat.testBit_eq_decide_div_mod_eq]
  simp only [Bool.true_and]
  apply Bool.eq_iff_iff.2
  simp only [decide_eq_true_eq]
  rw [← Int.natCast_ediv]
  omega

theorem tab_all : ((List.range 64).all fun t => tab64.getD (2 ^ t * 285870213051353865 % 18446744073709551616 / 288230376151711744) 0 == (t : Int)) = true := by decide +kernel

theorem tab_at {t : Nat} (h : t < 64) : tab64.getD (2 ^ t * 285870213051353865 % 18446744073709551616 / 288230376151711744) 0 = (t : Int) := by
  have := List.all_eq_true.1 tab_all t (List.mem_range.2 h)
  simpa using this

end Go.Proofs.YtnakmganodkliaaDoorAm
