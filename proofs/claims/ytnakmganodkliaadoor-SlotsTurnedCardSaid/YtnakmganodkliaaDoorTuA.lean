/- Turned grids, as plain laws: where cells and bars go; turns one behind the other; a turned right grid is right. -/
import Derived.Test.YtnakmganodkliaaDoorTcS
import Derived.Test.YtnakmganodkliaaDoorPaS
set_option linter.unusedVariables false
set_option linter.unusedSimpArgs false
set_option maxRecDepth 100000
namespace Go.Proofs.YtnakmganodkliaaDoorAm
open Go

theorem turns {k : Int} (k1 : 0 ≤ k ∧ k < 8) : k = 0 ∨ k = 1 ∨ k = 2 ∨ k = 3 ∨ k = 4 ∨ k = 5 ∨ k = 6 ∨ k = 7 := by omega

theorem then_all : ((List.range 8).all fun a => (List.range 8).all fun b => decide (0 ≤ thenF (a : Nat) (b : Nat)) && decide (thenF (a : Nat) (b : Nat) < 8) && (List.range 8).all fun c => thenF (thenF (a : Nat) (b : Nat)) (c : Nat) == thenF (a : Nat) (thenF (b : Nat) (c : Nat))) = true := by kernel_rfl
theorem back_all : ((List.range 8).all fun a => decide (0 ≤ backF (a : Nat)) && decide (backF (a : Nat) < 8) && thenF (a : Nat) (backF (a : Nat)) == 0 && thenF (backF (a : Nat)) (a : Nat) == 0 && thenF (a : Nat) 0 == a && thenF 0 (a : Nat) == a && decide ((thenF (a : Nat) 0) % 2 = a % 2)) = true := by kernel_rfl

theorem then_in {a b : Int} (ha : 0 ≤ a ∧ a < 8) (hb : 0 ≤ b ∧ b < 8) : 0 ≤ thenF a b ∧ thenF a b < 8 := by
  have h1 := List.all_eq_true.1 then_all a.toNat (List.mem_range.2 (by omega))
  have h2 := List.all_eq_true.1 h1 b.toNat (List.mem_range.2 (by omega))
  simp only [Bool.and_eq_true, decide_eq_true_eq, Int.toNat_of_nonneg ha.1, Int.toNat_of_nonneg hb.1] at h2
  exact h2.1

theorem then_assoc {a b c : Int} (ha : 0 ≤ a ∧ a < 8) (hb : 0 ≤ b ∧ b < 8) (hc : 0 ≤ c ∧ c < 8) : thenF (thenF a b) c = thenF a (thenF b c) := by
  have h1 := List.all_eq_true.1 then_all a.toNat (List.mem_range.2 (by omega))
  have h2 := List.all_eq_true.1 h1 b.toNat (List.mem_range.2 (by omega))
  simp only [Bool.and_eq_true] at h2
  have h3 := List.all_eq_true.1 h2.2 c.toNat (List.mem_range.2 (by omega))
  rw [beq_iff_eq, Int.toNat_of_nonneg ha.1, Int.toNat_of_nonneg hb.1, Int.toNat_of_nonneg hc.1] at h3
  exact h3

theorem back_facts {a : Int} (ha : 0 ≤ a ∧ a < 8) : (0 ≤ backF a ∧ backF a < 8) ∧ thenF a (backF a) = 0 ∧ thenF (backF a) a = 0 ∧ thenF a 0 = a ∧ thenF 0 a = a := by
  have h1 := List.all_eq_true.1 back_all a.toNat (List.mem_range.2 (by omega))
  simp only [Bool.and_eq_true, decide_eq_true_eq, beq_iff_eq, Int.toNat_of_nonneg ha.1] at h1
  exact ⟨h1.1.1.1.1.1, h1.1.1.1.1.2, h1.1.1.1.2, h1.1.1.2, h1.1.2⟩

theorem sides_in {h w k : Int} (h1 : 1 ≤ h ∧ h ≤ 16) (w1 : 1 ≤ w ∧ w ≤ 16) : (1 ≤ hT h w k ∧ hT h w k ≤ 16) ∧ 1 ≤ wT h w k ∧ wT h w k ≤ 16 := by
  unfold hT wT
  split <;> exact ⟨by omega, by omega⟩

/-- A turned cell's row and column. -/
theorem place_rc {h w i k : Int} (h1 : 1 ≤ h ∧ h ≤ 16) (w1 : 1 ≤ w ∧ w ≤ 16) (i1 : 0 ≤ i ∧ i < h * w) (k1 : 0 ≤ k ∧ k < 8) :
    placeF h w i k / wT h w k = (laidF h w (i / w) (i % w) k).1 ∧ placeF h w i k % wT h w k = (laidF h w (i / w) (i % w) k).2 := by
  obtain ⟨_, a3, a4⟩ := laid_sides (row_lt h1 w1 i1) (col_lt (i := i) w1) k1
  exact div_mod_of a3 a4 (place_def h w i k)

theorem then_sides {h w a b : Int} (ha : 0 ≤ a ∧ a < 8) (hb : 0 ≤ b ∧ b < 8) : hT (hT h w a) (wT h w a) b = hT h w (thenF a b) ∧ wT (hT h w a) (wT h w a) b = wT h w (thenF a b) := by
  rcases turns ha with rfl | rfl | rfl | rfl | rfl | rfl | rfl | rfl <;> rcases turns hb with rfl | rfl | rfl | rfl | rfl | rfl | rfl | rfl <;> exact ⟨rfl, rfl⟩

theorem laid_then {h w r c a b : Int} (ha : 0 ≤ a ∧ a < 8) (hb : 0 ≤ b ∧ b < 8) :
    laidF (hT h w a) (wT h w a) (laidF h w r c a).1 (laidF h w r c a).2 b = laidF h w r c (thenF a b) := by
  rcases turns ha with rfl | rfl | rfl | rfl | rfl | rfl | rfl | rfl <;> rcases turns hb with rfl | rfl | rfl | rfl | rfl | rfl | rfl | rfl <;> simp [laidF, rot, hT, wT, thenF, isB] <;> omega

theorem place_then {h w i a b : Int} (h1 : 1 ≤ h ∧ h ≤ 16) (w1 : 1 ≤ w ∧ w ≤ 16) (i1 : 0 ≤ i ∧ i < h * w) (ha : 0 ≤ a ∧ a < 8) (hb : 0 ≤ b ∧ b < 8) :
    placeF (hT h w a) (wT h w a) (placeF h w i a) b = placeF h w i (thenF a b) := by
  rw [place_def (hT h w a), (place_rc h1 w1 i1 ha).1, (place_rc h1 w1 i1 ha).2, laid_then ha hb, (then_sides ha hb).2]
  rfl

theorem place_zero {h w i : Int} : placeF h w i 0 = i := by
  have := Int.ediv_mul_add_emod i w
  rw [place_def]
  simp [laidF, rot, wT]
  omega

/-- Cells side by side: the second one is right of the first, or below. -/
def Nb (h w p q : Int) : Prop := (0 ≤ p ∧ p < h * w) ∧ (0 ≤ q ∧ q < h * w) ∧ ((q / w = p / w ∧ q % w = p % w + 1) ∨ (q / w = p / w + 1 ∧ q % w = p % w))

theorem nb_right {h w y : Int} (w1 : 1 ≤ w) (y1 : 0 ≤ y ∧ y < h * w) (hy : y % w < w - 1) : Nb h w y (y + 1) :=
  ⟨y1, ⟨by omega, right_in w1 y1.1 y1.2 (by omega)⟩, .inl (right_div w1 hy)⟩

theorem nb_down {h w y : Int} (w1 : 1 ≤ w) (y1 : 0 ≤ y ∧ y < h * w) (hy : y / w < h - 1) : Nb h w y (y + w) :=
  ⟨y1, ⟨by omega, below_in w1 y1.1 y1.2 (by omega)⟩, .inr (down_div w1)⟩

/-- What is side by side lies so. -/
theorem nb_cases {h w p q : Int} (w1 : 1 ≤ w) (n : Nb h w p q) : (q = p + 1 ∧ p % w < w - 1 ∧ q / w = p / w ∧ (p + 1) % w ≠ 0) ∨ (q = p + w ∧ p / w < h - 1 ∧ q / w = p / w + 1) := by
  obtain ⟨p1, q1, n⟩ := n
  have a := Int.ediv_mul_add_emod p w
  have b := Int.ediv_mul_add_emod q w
  have c := Int.emod_lt_of_pos q (show 0 < w by omega)
  have c0 := Int.emod_nonneg p (show w ≠ 0 by omega)
  rcases n with ⟨n1, n2⟩ | ⟨n1, n2⟩
  · rw [n1] at b
    have e : q = p + 1 := by omega
    refine .inl ⟨e, by omega, n1, ?_⟩
    rw [← e]
    omega
  · rw [n1, Int.add_mul] at b
    refine .inr ⟨by omega, ?_, n1⟩
    have := (row_in w1 q1.1 q1.2).2.1
    omega

theorem place_nb {h w p q k : Int} (h1 : 1 ≤ h ∧ h ≤ 16) (w1 : 1 ≤ w ∧ w ≤ 16) (k1 : 0 ≤ k ∧ k < 8) (n : Nb h w p q) :
    Nb (hT h w k) (wT h w k) (placeF h w p k) (placeF h w q k) ∨ Nb (hT h w k) (wT h w k) (placeF h w q k) (placeF h w p k) := by
  obtain ⟨p1, q1, n⟩ := n
  have a := place_in h1 w1 p1 k1
  have b := place_in h1 w1 q1 k1
  have ra := place_rc h1 w1 p1 k1
  have rb := place_rc h1 w1 q1 k1
  unfold Nb
  rw [sides_mul, ra.1, ra.2, rb.1, rb.2]
  simp only [a, b, and_self, true_and]
  rcases n with ⟨n1, n2⟩ | ⟨n1, n2⟩ <;> rw [n1, n2] <;> rcases turns k1 with rfl | rfl | rfl | rfl | rfl | rfl | rfl | rfl <;> simp [laidF, rot] <;> omega

def mnI (p q : Int) : Int := if q < p then q else p
def mxI (p q : Int) : Int := if q > p then q else p

/-- Which bar stands between two cells: a right one, and of which cell. -/
def slotP (w p q : Int) : Bool × Int := (decide (mxI p q = mnI p q + 1) && decide ((mnI p q + 1) % w ≠ 0), mnI p q)

theorem slot_comm (w p q : Int) : slotP w p q = slotP w q p := by
  have h1 : mnI p q = mnI q p := by unfold mnI; split <;> split <;> omega
  have h2 : mxI p q = mxI q p := by unfold mxI; split <;> split <;> omega
  unfold slotP
  rw [h1, h2]

theorem slot_nb {h w p q : Int} (w1 : 1 ≤ w) (n : Nb h w p q) : slotP w p q = (decide (q / w = p / w), p) := by
  have hn := nb_cases w1 n
  have : p < q := by rcases hn with ⟨a, _⟩ | ⟨a, _⟩ <;> omega
  have e1 : mnI p q = p := by unfold mnI; rw [if_neg (by omega)]
  have e2 : mxI p q = q := by unfold mxI; rw [if_pos (by omega)]
  unfold slotP
  rw [e1, e2]
  rcases hn with ⟨a, b, c, d⟩ | ⟨a, b, c⟩
  · rw [decide_eq_true a, decide_eq_true d, decide_eq_true c]; rfl
  · rw [show decide (q / w = p / w) = false from decide_eq_false (by omega)]
    by_cases hw : w = 1
    · subst hw
      rw [show decide ((p + 1) % 1 ≠ 0) = false from decide_eq_false (by omega)]
      simp
    · rw [show decide (q = p + 1) = false from decide_eq_false (by omega)]
      simp

/-- The bar between two cells that stand side by side, the first ahead. -/
def bar0 (g : Gr) (p q : Int) : Bool := if q / g.w = p / g.w then bAt g.R p else bAt g.L p

def barAt (G : Gr) (p q : Int) : Bool := if (slotP G.w p q).1 then bAt G.R (slotP G.w p q).2 else bAt G.L (slotP G.w p q).2

theorem barAt_comm (G : Gr) (p q : Int) : barAt G p q = barAt G q p := by unfold barAt; rw [slot_comm]

theorem barAt_nb {G : Gr} {p q : Int} (w1 : 1 ≤ G.w) (n : Nb G.h G.w p q) : barAt G p q = bar0 G p q := by
  unfold barAt bar0
  rw [slot_nb w1 n]
  by_cases h : q / G.w = p / G.w <;> simp [h]

/-- A grid that is right. -/
structure Right (g : Gr) : Prop where
  h1 : 1 ≤ g.h ∧ g.h ≤ 16
  w1 : 1 ≤ g.w ∧ g.w ≤ 16
  b : (g.B.length : Int) = g.h * g.w
  r : (g.R.length : Int) = g.h * g.w
  l : (g.L.length : Int) = g.h * g.w
  last : ∀ j, 0 ≤ j → j < g.h * g.w → bAt g.R j = true → j % g.w < g.w - 1
  low : ∀ j, 0 ≤ j → j < g.h * g.w → bAt g.L j = true → j / g.w < g.h - 1
  free : ∀ p q, Nb g.h g.w p q → bar0 g p q = true → bAt g.B p = false ∧ bAt g.B q = false

theorem any_iff (g : Gr) : ∀ (m : Nat) (i : Int), anyBar g m i = false ↔ ∀ x, i ≤ x → x < i + m → barred g x = false
  | 0, i => by simp [anyBar]; intro x a b; omega
  | m + 1, i => by
    simp only [anyBar, Bool.or_eq_false_iff, any_iff g m (i + 1)]
    constructor
    · rintro ⟨h1, h2⟩ x a b
      by_cases e : x = i
      · rw [e]; exact h1
      · exact h2 x (by omega) (by omega)
    · intro h
      exact ⟨h i (by omega) (by omega), fun x a b => h x (by omega) (by omega)⟩

theorem right_iff {g : Gr} : checkF g = 0 ↔ Right g := by
  rw [chk0]
  constructor
  · rintro ⟨h1, w1, sz, hb⟩
    have hw := hw_in h1 w1
    have w0 := (side_iff.1 w1).1
    rw [any_iff] at hb
    obtain ⟨s1, s2, s3⟩ := size3 sz
    have hb' : ∀ x, 0 ≤ x → x < g.h * g.w → barred g x = false := fun x a b => hb x a (by omega)
    refine ⟨side_iff.1 h1, side_iff.1 w1, s1, s2, s3, fun j a b c => ?_, fun j a b c => ?_, fun p q n c => ?_⟩
    · have := hb' j a b
      simp only [barred, c, Bool.true_and, Bool.or_eq_false_iff, decide_eq_false_iff_not] at this
      have := (row_in w0 a b)
      omega
    · have := hb' j a b
      simp only [barred, c, Bool.true_and, Bool.or_eq_false_iff, decide_eq_false_iff_not] at this
      have := (row_in w0 a b)
      omega
    · have hp := hb' p n.1.1 n.1.2
      unfold bar0 at c
      rcases nb_cases w0 n with ⟨e, _, e2, _⟩ | ⟨e, _, e2⟩
      · rw [if_pos e2] at c
        simp only [barred, c, Bool.true_and, Bool.or_eq_false_iff, decide_eq_false_iff_not] at hp
        rw [e]
        exact ⟨hp.1.1.1, hp.1.2⟩
      · rw [if_neg (by omega)] at c
        simp only [barred, c, Bool.true_and, Bool.or_eq_false_iff, decide_eq_false_iff_not] at hp
        rw [e]
        exact ⟨hp.2.1.1, hp.2.2⟩
  · intro R
    have w0 := R.w1.1
    refine ⟨side_iff.2 R.h1, side_iff.2 R.w1, ?_, ?_⟩
    · simp [sizeB3, R.b, R.r, R.l]
    · rw [any_iff]
      have hw := hw_in (side_iff.2 R.h1) (side_iff.2 R.w1)
      intro x a b
      have b' : x < g.h * g.w := by omega
      have hr := row_in w0 a b'
      have k1 : bAt g.R x = true → x % g.w < g.w - 1 ∧ bAt g.B x = false ∧ bAt g.B (x + 1) = false := by
        intro c
        have l := R.last x a b' c
        have n := nb_right (h := g.h) w0 ⟨a, b'⟩ l
        have e := (right_div w0 l).1
        exact ⟨l, R.free x (x + 1) n (by unfold bar0; rw [if_pos e]; exact c)⟩
      have k2 : bAt g.L x = true → x / g.w < g.h - 1 ∧ bAt g.B x = false ∧ bAt g.B (x + g.w) = false := by
        intro c
        have l := R.low x a b' c
        have n := nb_down w0 ⟨a, b'⟩ l
        have e := (down_div (i := x) w0).1
        exact ⟨l, R.free x (x + g.w) n (by unfold bar0; rw [if_neg (by omega)]; exact c)⟩
      unfold barred
      cases c1 : bAt g.R x with
      | false =>
        cases c2 : bAt g.L x with
        | false => simp
        | true =>
          obtain ⟨e1, e2, e3⟩ := k2 c2
          simp [e2, e3]
          omega
      | true =>
        obtain ⟨d1, d2, d3⟩ := k1 c1
        cases c2 : bAt g.L x with
        | false => simp [d2, d3]; omega
        | true =>
          obtain ⟨e1, e2, e3⟩ := k2 c2
          simp [e2, e3, d2, d3]
          omega

/-- The grid turned. -/
structure IsTurn (g : Gr) (k : Int) (G : Gr) : Prop where
  h : G.h = hT g.h g.w k
  w : G.w = wT g.h g.w k
  b : (G.B.length : Int) = g.h * g.w
  r : (G.R.length : Int) = g.h * g.w
  l : (G.L.length : Int) = g.h * g.w
  cell : ∀ y, 0 ≤ y → y < g.h * g.w → bAt G.B (placeF g.h g.w y k) = bAt g.B y
  bar : ∀ p q, Nb g.h g.w p q → barAt G (placeF g.h g.w p k) (placeF g.h g.w q k) = bar0 g p q
  last : ∀ j, 0 ≤ j → j < g.h * g.w → ¬ j % G.w < G.w - 1 → bAt G.R j = false
  low : ∀ j, 0 ≤ j → j < g.h * g.w → ¬ j / G.w < G.h - 1 → bAt G.L j = false

theorem IsTurn.mul {g : Gr} {k : Int} {G : Gr} (T : IsTurn g k G) : G.h * G.w = g.h * g.w := by rw [T.h, T.w, sides_mul]

theorem IsTurn.refl {g : Gr} (R : Right g) : IsTurn g 0 g := by
  refine ⟨rfl, rfl, R.b, R.r, R.l, fun y _ _ => by rw [place_zero], fun p q n => ?_, fun j a b c => ?_, fun j a b c => ?_⟩
  · rw [place_zero, place_zero]
    exact barAt_nb R.w1.1 n
  · cases h : bAt g.R j with
    | false => rfl
    | true => exact absurd (R.last j a b h) c
  · cases h : bAt g.L j with
    | false => rfl
    | true => exact absurd (R.low j a b h) c

theorem IsTurn.trans {g G K : Gr} {a b : Int} (h1 : 1 ≤ g.h ∧ g.h ≤ 16) (w1 : 1 ≤ g.w ∧ g.w ≤ 16) (ha : 0 ≤ a ∧ a < 8) (hb : 0 ≤ b ∧ b < 8) (T : IsTurn g a G) (U : IsTurn G b K) : IsTurn g (thenF a b) K := by
  have hm := T.mul
  have ts := then_sides (h := g.h) (w := g.w) ha hb
  have e : ∀ y, 0 ≤ y → y < g.h * g.w → placeF G.h G.w (placeF g.h g.w y a) b = placeF g.h g.w y (thenF a b) := fun y y0 y1 => by
    rw [T.h, T.w]; exact place_then h1 w1 ⟨y0, y1⟩ ha hb
  have hs := sides_in (k := a) h1 w1
  rw [← T.h, ← T.w] at hs
  refine ⟨by rw [U.h, T.h, T.w, ts.1], by rw [U.w, T.h, T.w, ts.2], by rw [U.b, hm], by rw [U.r, hm], by rw [U.l, hm], fun y y0 y1 => ?_, fun p q n => ?_, ?_, ?_⟩
  · have := place_in h1 w1 ⟨y0, y1⟩ ha
    rw [← e y y0 y1, U.cell _ this.1 (by rw [hm]; exact this.2), T.cell y y0 y1]
  · rw [← e p n.1.1 n.1.2, ← e q n.2.1.1 n.2.1.2]
    have hn := place_nb h1 w1 ha n
    rw [← T.h, ← T.w] at hn
    rw [← T.bar p q n]
    rcases hn with hn | hn
    · rw [U.bar _ _ hn, barAt_nb hs.2.1 hn]
    · rw [barAt_comm K, barAt_comm G, U.bar _ _ hn, barAt_nb hs.2.1 hn]
  · rw [← hm]; exact U.last
  · rw [← hm]; exact U.low

theorem list_eq {A B : List Bool} (hl : A.length = B.length) (h : ∀ j : Int, 0 ≤ j → j < A.length → bAt A j = bAt B j) : A = B := by
  apply List.ext_getElem hl
  intro k h1 h2
  have := h k (by omega) (by omega)
  unfold bAt at this
  rw [List.getD_eq_getElem?_getD, List.getD_eq_getElem?_getD, Int.toNat_natCast, List.getElem?_eq_getElem h1, List.getElem?_eq_getElem h2] at this
  exact this

/-- The cell that is turned there. -/
theorem inv_ex {h w j k : Int} (h1 : 1 ≤ h ∧ h ≤ 16) (w1 : 1 ≤ w ∧ w ≤ 16) (k1 : 0 ≤ k ∧ k < 8) (j1 : 0 ≤ j ∧ j < h * w) :
    (0 ≤ placeF (hT h w k) (wT h w k) j (backF k) ∧ placeF (hT h w k) (wT h w k) j (backF k) < h * w) ∧ placeF h w (placeF (hT h w k) (wT h w k) j (backF k)) k = j := by
  have hs := sides_in (k := k) h1 w1
  have bk := back_facts k1
  have j2 : 0 ≤ j ∧ j < hT h w k * wT h w k := by rw [sides_mul]; exact j1
  have hi := place_in hs.1 hs.2 j2 bk.1
  rw [sides_mul] at hi
  refine ⟨hi, ?_⟩
  have ts := then_sides (h := h) (w := w) k1 bk.1
  have e := place_then hs.1 hs.2 j2 bk.1 k1
  rw [ts.1, ts.2, bk.2.1, bk.2.2.1, place_zero] at e
  exact e

theorem inv_nb {h w i j k : Int} (h1 : 1 ≤ h ∧ h ≤ 16) (w1 : 1 ≤ w ∧ w ≤ 16) (k1 : 0 ≤ k ∧ k < 8) (n : Nb (hT h w k) (wT h w k) i j) :
    ∃ p q, (placeF h w p k = i ∧ placeF h w q k = j) ∧ (Nb h w p q ∨ Nb h w q p) := by
  have hs := sides_in (k := k) h1 w1
  have bk := back_facts k1
  have i1 := n.1
  have j1 := n.2.1
  rw [sides_mul] at i1 j1
  refine ⟨_, _, ⟨(inv_ex h1 w1 k1 i1).2, (inv_ex h1 w1 k1 j1).2⟩, ?_⟩
  have hn := place_nb hs.1 hs.2 bk.1 n
  have ts := then_sides (h := h) (w := w) k1 bk.1
  rw [ts.1, ts.2, bk.2.1] at hn
  exact hn

theorem IsTurn.unique {g G K : Gr} {k : Int} (h1 : 1 ≤ g.h ∧ g.h ≤ 16) (w1 : 1 ≤ g.w ∧ g.w ≤ 16) (k1 : 0 ≤ k ∧ k < 8) (T : IsTurn g k G) (U : IsTurn g k K) : G = K := by
  have hs := sides_in (k := k) h1 w1
  have hm : hT g.h g.w k * wT g.h g.w k = g.h * g.w := sides_mul _ _ _
  have eh : G.h = K.h := by rw [T.h, U.h]
  have ew : G.w = K.w := by rw [T.w, U.w]
  have key : ∀ i j, Nb (hT g.h g.w k) (wT g.h g.w k) i j → bar0 G i j = bar0 K i j := by
    intro i j n
    obtain ⟨p, q, ⟨e1, e2⟩, hn⟩ := inv_nb h1 w1 k1 n
    rw [← barAt_nb (by rw [T.w]; exact hs.2.1) (by rw [T.h, T.w]; exact n), ← barAt_nb (by rw [U.w]; exact hs.2.1) (by rw [U.h, U.w]; exact n), ← e1, ← e2]
    rcases hn with hn | hn
    · rw [T.bar p q hn, U.bar p q hn]
    · rw [barAt_comm G, barAt_comm K, T.bar q p hn, U.bar q p hn]
  refine gr_eq.2 ⟨eh, ew, ?_, ?_, ?_⟩
  · refine list_eq (by have := T.b; have := U.b; omega) (fun j j0 j1 => ?_)
    rw [T.b] at j1
    obtain ⟨a, e⟩ := inv_ex h1 w1 k1 ⟨j0, j1⟩
    rw [← e, T.cell _ a.1 a.2, U.cell _ a.1 a.2]
  · refine list_eq (by have := T.r; have := U.r; omega) (fun j j0 j1 => ?_)
    rw [T.r] at j1
    by_cases hl : j % G.w < G.w - 1
    · rw [T.w] at hl
      have n := nb_right (h := hT g.h g.w k) hs.2.1 ⟨j0, by rw [hm]; exact j1⟩ hl
      have e := (right_div hs.2.1 hl).1
      have := key _ _ n
      unfold bar0 at this
      rw [T.w, U.w, if_pos e, if_pos e] at this
      exact this
    · rw [T.last j j0 j1 hl, U.last j j0 j1 (by rw [← ew]; exact hl)]
  · refine list_eq (by have := T.l; have := U.l; omega) (fun j j0 j1 => ?_)
    rw [T.l] at j1
    by_cases hl : j / G.w < G.h - 1
    · rw [T.w, T.h] at hl
      have n := nb_down hs.2.1 ⟨j0, by rw [hm]; exact j1⟩ hl
      have e := (down_div (i := j) hs.2.1).1
      have := key _ _ n
      unfold bar0 at this
      rw [T.w, U.w, if_neg (by omega), if_neg (by omega)] at this
      exact this
    · rw [T.low j j0 j1 hl, U.low j j0 j1 (by rw [← ew, ← eh]; exact hl)]

theorem IsTurn.right {g G : Gr} {k : Int} (k1 : 0 ≤ k ∧ k < 8) (R : Right g) (T : IsTurn g k G) : Right G := by
  have hs := sides_in (k := k) R.h1 R.w1
  have hm := T.mul
  rw [← T.h, ← T.w] at hs
  refine ⟨hs.1, hs.2, by rw [T.b, hm], by rw [T.r, hm], by rw [T.l, hm], fun j a b c => ?_, fun j a b c => ?_, fun i j n c => ?_⟩
  · refine Decidable.byContradiction fun h => ?_
    rw [T.last j a (by rw [← hm]; exact b) h] at c
    cases c
  · refine Decidable.byContradiction fun h => ?_
    rw [T.low j a (by rw [← hm]; exact b) h] at c
    cases c
  · rw [← barAt_nb hs.2.1 n] at c
    rw [T.h, T.w] at n
    obtain ⟨p, q, ⟨e1, e2⟩, hn⟩ := inv_nb R.h1 R.w1 k1 n
    rw [← e1, ← e2] at c ⊢
    rcases hn with hn | hn
    · rw [T.bar p q hn] at c
      rw [T.cell p hn.1.1 hn.1.2, T.cell q hn.2.1.1 hn.2.1.2]
      exact R.free p q hn c
    · rw [barAt_comm, T.bar q p hn] at c
      rw [T.cell p hn.2.1.1 hn.2.1.2, T.cell q hn.1.1 hn.1.2]
      exact ⟨(R.free q p hn c).2, (R.free q p hn c).1⟩

end Go.Proofs.YtnakmganodkliaaDoorAm
