/- A grid is turned cell by cell: what holds between cells; in the end it is the grid turned. -/
import Derived.Test.YtnakmganodkliaaDoorTuA
import Derived.Test.YtnakmganodkliaaDoorGrG
set_option linter.unusedVariables false
set_option linter.unusedSimpArgs false
set_option maxRecDepth 100000
namespace Go.Proofs.YtnakmganodkliaaDoorAm
open Go

def setR (c : Bool) (R : List Bool) (j : Int) : List Bool := if c then R.set j.toNat true else R

/-- A bar is laid between two cells. -/
def putBar (G : Gr) (P Q : Int) : Gr := ⟨G.h, G.w, G.B, setR (slotP G.w P Q).1 G.R (slotP G.w P Q).2, setR (!(slotP G.w P Q).1) G.L (slotP G.w P Q).2⟩

def putC (c : Bool) (G : Gr) (P Q : Int) : Gr := if c then putBar G P Q else G

/-- One cell is laid. -/
def stepT (g : Gr) (k y : Int) (G : Gr) : Gr :=
  putC (bAt g.L y) (putC (bAt g.R y) ⟨G.h, G.w, G.B.set (placeF g.h g.w y k).toNat (bAt g.B y), G.R, G.L⟩ (placeF g.h g.w y k) (placeF g.h g.w (y + 1) k)) (placeF g.h g.w y k) (placeF g.h g.w (y + g.w) k)

def foldT (g : Gr) (k : Int) : Nat → Int → Gr → Gr
  | 0, _, G => G
  | m + 1, y, G => foldT g k m (y + 1) (stepT g k y G)

def blankG (h w : Int) : Gr := ⟨h, w, List.replicate (h * w).toNat false, List.replicate (h * w).toNat false, List.replicate (h * w).toNat false⟩

def turnF (g : Gr) (k : Int) : Gr := foldT g k (g.h * g.w).toNat 0 (blankG (hT g.h g.w k) (wT g.h g.w k))

theorem putBar_hw (c : Bool) (G : Gr) (P Q : Int) : (putC c G P Q).h = G.h ∧ (putC c G P Q).w = G.w ∧ (putC c G P Q).B = G.B ∧ (putC c G P Q).R.length = G.R.length ∧ (putC c G P Q).L.length = G.L.length := by
  unfold putC putBar setR
  cases c <;> simp
  constructor <;> split <;> simp

/-- What a bar changes. -/
theorem putBar_at {G : Gr} {P Q : Int} (f0 : 0 ≤ (slotP G.w P Q).2) (fr : (slotP G.w P Q).2 < G.R.length) (fl : (slotP G.w P Q).2 < G.L.length) (j : Int) (j0 : 0 ≤ j) :
    bAt (putBar G P Q).R j = (if slotP G.w P Q = (true, j) then true else bAt G.R j) ∧ bAt (putBar G P Q).L j = (if slotP G.w P Q = (false, j) then true else bAt G.L j) := by
  unfold putBar setR
  generalize slotP G.w P Q = s at *
  obtain ⟨b, f⟩ := s
  simp only at f0 fr fl ⊢
  cases b
  · simp only [Bool.false_eq_true, if_false, Prod.mk.injEq, false_and, Bool.not_false, if_true, true_and]
    rw [bAt_set j0 f0 fl]
    by_cases h : j = f
    · simp [h]
    · simp [h, Ne.symm h]
  · simp only [if_true, Prod.mk.injEq, true_and, Bool.not_true, Bool.false_eq_true, if_false, reduceCtorEq, false_and, and_true]
    rw [bAt_set j0 f0 fr]
    by_cases h : j = f
    · simp [h]
    · simp [h, Ne.symm h]

/-- What holds when the cells below x are laid. -/
structure Part (g : Gr) (k x : Int) (G : Gr) : Prop where
  h : G.h = hT g.h g.w k
  w : G.w = wT g.h g.w k
  b : (G.B.length : Int) = g.h * g.w
  r : (G.R.length : Int) = g.h * g.w
  l : (G.L.length : Int) = g.h * g.w
  cell : ∀ y, 0 ≤ y → y < x → bAt G.B (placeF g.h g.w y k) = bAt g.B y
  bar : ∀ p q, Nb g.h g.w p q → barAt G (placeF g.h g.w p k) (placeF g.h g.w q k) = (bar0 g p q && decide (p < x))
  last : ∀ j, 0 ≤ j → j < g.h * g.w → ¬ j % G.w < G.w - 1 → bAt G.R j = false
  low : ∀ j, 0 ≤ j → j < g.h * g.w → ¬ j / G.w < G.h - 1 → bAt G.L j = false

theorem Part.start {g : Gr} {k : Int} (R : Right g) (k1 : 0 ≤ k ∧ k < 8) : Part g k 0 (blankG (hT g.h g.w k) (wT g.h g.w k)) := by
  have hm : hT g.h g.w k * wT g.h g.w k = g.h * g.w := sides_mul _ _ _
  have hw := hw_in (side_iff.2 R.h1) (side_iff.2 R.w1)
  have e : ∀ j, bAt (List.replicate (hT g.h g.w k * wT g.h g.w k).toNat false) j = false := fun j => bAt_rep _ _
  have hl : ((List.replicate (hT g.h g.w k * wT g.h g.w k).toNat false).length : Int) = g.h * g.w := by rw [List.length_replicate, hm]; omega
  refine ⟨rfl, rfl, hl, hl, hl, fun y _ _ => by omega, fun p q n => ?_, fun j _ _ _ => e j, fun j _ _ _ => e j⟩
  have : decide (p < 0) = false := decide_eq_false (by have := n.1.1; omega)
  rw [this, Bool.and_false]
  unfold barAt
  show (if _ then bAt (List.replicate _ false) _ else bAt (List.replicate _ false) _) = false
  rw [e, ite_self]

theorem Part.fin {g : Gr} {k : Int} {G : Gr} (P : Part g k (g.h * g.w) G) : IsTurn g k G := by
  refine ⟨P.h, P.w, P.b, P.r, P.l, P.cell, fun p q n => ?_, P.last, P.low⟩
  rw [P.bar p q n, decide_eq_true n.1.2, Bool.and_true]

/-- Two pairs of cells with one bar are one pair. -/
theorem slot_inj {h w k p q p' q' : Int} (h1 : 1 ≤ h ∧ h ≤ 16) (w1 : 1 ≤ w ∧ w ≤ 16) (k1 : 0 ≤ k ∧ k < 8) (n : Nb h w p q) (n' : Nb h w p' q')
    (e : slotP (wT h w k) (placeF h w p k) (placeF h w q k) = slotP (wT h w k) (placeF h w p' k) (placeF h w q' k)) : p = p' ∧ q = q' := by
  have hs := sides_in (k := k) h1 w1
  have lt : ∀ {p q}, Nb h w p q → p < q := fun n => by rcases nb_cases w1.1 n with ⟨a, _⟩ | ⟨a, _⟩ <;> omega
  have inj := fun {i i' : Int} (a : 0 ≤ i ∧ i < h * w) (b : 0 ≤ i' ∧ i' < h * w) => place_inj (k := k) h1 w1 a b k1
  have key : ∀ {i j i' j' : Int}, Nb (hT h w k) (wT h w k) i j → Nb (hT h w k) (wT h w k) i' j' → slotP (wT h w k) i j = slotP (wT h w k) i' j' → i = i' ∧ j = j' := by
    intro i j i' j' m m' e
    rw [slot_nb hs.2.1 m, slot_nb hs.2.1 m', Prod.mk.injEq] at e
    obtain ⟨e1, e2⟩ := e
    subst e2
    refine ⟨rfl, ?_⟩
    have e3 : (j / wT h w k = i / wT h w k) ↔ (j' / wT h w k = i / wT h w k) := by
      constructor
      · intro x; exact of_decide_eq_true (e1 ▸ decide_eq_true x)
      · intro x; exact of_decide_eq_true (e1.symm ▸ decide_eq_true x)
    rcases nb_cases hs.2.1 m with ⟨a, _, b, _⟩ | ⟨a, _, b⟩ <;> rcases nb_cases hs.2.1 m' with ⟨a', _, b', _⟩ | ⟨a', _, b'⟩
    · omega
    · have := e3.1 b; omega
    · have := e3.2 b'; omega
    · omega
  rcases place_nb h1 w1 k1 n with m | m <;> rcases place_nb h1 w1 k1 n' with m' | m'
  · obtain ⟨a, b⟩ := key m m' e
    exact ⟨inj n.1 n'.1 a, inj n.2.1 n'.2.1 b⟩
  · rw [slot_comm _ (placeF h w p' k)] at e
    obtain ⟨a, b⟩ := key m m' e
    have := inj n.1 n'.2.1 a
    have := inj n.2.1 n'.1 b
    have := lt n
    have := lt n'
    omega
  · rw [slot_comm _ (placeF h w p k)] at e
    obtain ⟨a, b⟩ := key m m' e
    have := inj n.2.1 n'.1 a
    have := inj n.1 n'.2.1 b
    have := lt n
    have := lt n'
    omega
  · rw [slot_comm _ (placeF h w p k), slot_comm _ (placeF h w p' k)] at e
    obtain ⟨a, b⟩ := key m m' e
    exact ⟨inj n.1 n'.1 b, inj n.2.1 n'.2.1 a⟩

/-- One bar is laid. -/
theorem bar_put {g : Gr} {k : Int} {G : Gr} {p q : Int} (R : Right g) (k1 : 0 ≤ k ∧ k < 8) (ew : G.w = wT g.h g.w k) (eh : G.h = hT g.h g.w k) (r : (G.R.length : Int) = g.h * g.w) (l : (G.L.length : Int) = g.h * g.w) (n : Nb g.h g.w p q) :
    (∀ p' q', Nb g.h g.w p' q' → barAt (putBar G (placeF g.h g.w p k) (placeF g.h g.w q k)) (placeF g.h g.w p' k) (placeF g.h g.w q' k) = (if p' = p ∧ q' = q then true else barAt G (placeF g.h g.w p' k) (placeF g.h g.w q' k))) ∧
    (∀ j, 0 ≤ j → j < g.h * g.w → ¬ j % G.w < G.w - 1 → bAt (putBar G (placeF g.h g.w p k) (placeF g.h g.w q k)).R j = bAt G.R j) ∧
    (∀ j, 0 ≤ j → j < g.h * g.w → ¬ j / G.w < G.h - 1 → bAt (putBar G (placeF g.h g.w p k) (placeF g.h g.w q k)).L j = bAt G.L j) := by
  have hs := sides_in (k := k) R.h1 R.w1
  have hm : hT g.h g.w k * wT g.h g.w k = g.h * g.w := sides_mul _ _ _
  have key : ∀ {p q}, Nb g.h g.w p q → ∃ i j, Nb (hT g.h g.w k) (wT g.h g.w k) i j ∧ slotP G.w (placeF g.h g.w p k) (placeF g.h g.w q k) = (decide (j / wT g.h g.w k = i / wT g.h g.w k), i) := by
    intro p q n
    rcases place_nb R.h1 R.w1 k1 n with m | m
    · exact ⟨_, _, m, by rw [ew]; exact slot_nb hs.2.1 m⟩
    · exact ⟨_, _, m, by rw [ew, slot_comm]; exact slot_nb hs.2.1 m⟩
  obtain ⟨i, j, m, e⟩ := key n
  have i1 := m.1
  rw [hm] at i1
  have at' := putBar_at (G := G) (P := placeF g.h g.w p k) (Q := placeF g.h g.w q k) (by rw [e]; exact i1.1) (by rw [e]; simp only; omega) (by rw [e]; simp only; omega)
  refine ⟨fun p' q' n' => ?_, fun x x0 x1 hx => ?_, fun x x0 x1 hx => ?_⟩
  · obtain ⟨i', j', m', e'⟩ := key n'
    obtain ⟨a1, a2⟩ := at' i' m'.1.1
    have hslot : (slotP G.w (placeF g.h g.w p k) (placeF g.h g.w q k) = slotP G.w (placeF g.h g.w p' k) (placeF g.h g.w q' k)) ↔ (p' = p ∧ q' = q) := by
      constructor
      · intro h
        rw [ew] at h
        have := slot_inj R.h1 R.w1 k1 n n' h
        exact ⟨this.1.symm, this.2.symm⟩
      · rintro ⟨rfl, rfl⟩
        rfl
    show (if (slotP G.w _ _).1 then bAt _ (slotP G.w _ _).2 else bAt _ (slotP G.w _ _).2) = if _ then true else (if (slotP G.w _ _).1 then bAt _ (slotP G.w _ _).2 else bAt _ (slotP G.w _ _).2)
    rw [e'] at hslot ⊢
    simp only
    rw [a1, a2]
    by_cases hd : j' / wT g.h g.w k = i' / wT g.h g.w k
    · rw [decide_eq_true hd] at hslot ⊢
      simp only [if_true, hslot]
    · rw [decide_eq_false hd] at hslot ⊢
      simp only [Bool.false_eq_true, if_false, hslot]
  · rw [(at' x x0).1, if_neg]
    intro h
    rw [e, Prod.mk.injEq] at h
    obtain ⟨h2, rfl⟩ := h
    rcases nb_cases hs.2.1 m with ⟨_, b, _⟩ | ⟨_, _, b⟩
    · rw [ew] at hx; exact hx b
    · have := of_decide_eq_true h2; omega
  · rw [(at' x x0).2, if_neg]
    intro h
    rw [e, Prod.mk.injEq] at h
    obtain ⟨h2, rfl⟩ := h
    rcases nb_cases hs.2.1 m with ⟨_, _, b, _⟩ | ⟨_, b, _⟩
    · have := of_decide_eq_false h2; exact this b
    · rw [ew, eh] at hx; exact hx b

theorem Part.step {g : Gr} {k x : Int} {G : Gr} (R : Right g) (k1 : 0 ≤ k ∧ k < 8) (x0 : 0 ≤ x) (x1 : x < g.h * g.w) (P : Part g k x G) : Part g k (x + 1) (stepT g k x G) := by
  have w0 := R.w1.1
  have px := place_in R.h1 R.w1 ⟨x0, x1⟩ k1
  -- the cell
  let G1 : Gr := ⟨G.h, G.w, G.B.set (placeF g.h g.w x k).toNat (bAt g.B x), G.R, G.L⟩
  let G2 : Gr := putC (bAt g.R x) G1 (placeF g.h g.w x k) (placeF g.h g.w (x + 1) k)
  let G3 : Gr := putC (bAt g.L x) G2 (placeF g.h g.w x k) (placeF g.h g.w (x + g.w) k)
  show Part g k (x + 1) G3
  have f2 : G2.h = G.h ∧ G2.w = G.w ∧ G2.B = G1.B ∧ G2.R.length = G.R.length ∧ G2.L.length = G.L.length := putBar_hw _ _ _ _
  have f3 : G3.h = G2.h ∧ G3.w = G2.w ∧ G3.B = G2.B ∧ G3.R.length = G2.R.length ∧ G3.L.length = G2.L.length := putBar_hw _ _ _ _
  have pb := P.b
  have pr := P.r
  have pl := P.l
  have nr : bAt g.R x = true → Nb g.h g.w x (x + 1) := fun h => nb_right w0 ⟨x0, x1⟩ (R.last x x0 x1 h)
  have nl : bAt g.L x = true → Nb g.h g.w x (x + g.w) := fun h => nb_down w0 ⟨x0, x1⟩ (R.low x x0 x1 h)
  have s2 := fun h => bar_put (G := G1) R k1 P.w P.h pr pl (nr h)
  have s3 := fun h => bar_put (G := G2) R k1 (f2.2.1.trans P.w) (f2.1.trans P.h) (by rw [f2.2.2.2.1]; exact pr) (by rw [f2.2.2.2.2]; exact pl) (nl h)
  have lastrow : ∀ p q, Nb g.h g.w p q → p = x → (q = x + 1 ∧ q / g.w = p / g.w) ∨ (q = x + g.w ∧ ¬ q / g.w = p / g.w) := by
    rintro p q n rfl
    rcases nb_cases w0 n with ⟨a, _, b, _⟩ | ⟨a, _, b⟩
    · exact .inl ⟨a, b⟩
    · exact .inr ⟨a, by omega⟩
  refine ⟨by rw [f3.1, f2.1, P.h], by rw [f3.2.1, f2.2.1, P.w], ?_, by rw [f3.2.2.2.1, f2.2.2.2.1]; exact pr, by rw [f3.2.2.2.2, f2.2.2.2.2]; exact pl, fun y y0 y1 => ?_, fun p q n => ?_, fun j j0 j1 hj => ?_, fun j j0 j1 hj => ?_⟩
  · rw [f3.2.2.1, f2.2.2.1]
    show ((G.B.set _ _).length : Int) = _
    rw [List.length_set]
    exact pb
  · rw [f3.2.2.1, f2.2.2.1]
    show bAt (G.B.set _ _) _ = _
    have py := place_in R.h1 R.w1 ⟨y0, by omega⟩ k1
    rw [bAt_set py.1 px.1 (by omega)]
    by_cases hy : y = x
    · subst hy; rw [if_pos rfl]
    · rw [if_neg (fun h => hy (place_inj R.h1 R.w1 ⟨y0, by omega⟩ ⟨x0, x1⟩ k1 h)), P.cell y y0 (by omega)]
  · have h1 : barAt G1 (placeF g.h g.w p k) (placeF g.h g.w q k) = (bar0 g p q && decide (p < x)) := P.bar p q n
    have h2 : barAt G2 (placeF g.h g.w p k) (placeF g.h g.w q k) = (if p = x ∧ q = x + 1 ∧ bAt g.R x = true then true else (bar0 g p q && decide (p < x))) := by
      show barAt (putC _ _ _ _) _ _ = _
      unfold putC
      cases hR : bAt g.R x with
      | false => simp [h1]
      | true => simp only [if_true]; rw [(s2 hR).1 p q n, h1]; simp [hR]
    have h3 : barAt G3 (placeF g.h g.w p k) (placeF g.h g.w q k) = (if p = x ∧ q = x + g.w ∧ bAt g.L x = true then true else if p = x ∧ q = x + 1 ∧ bAt g.R x = true then true else (bar0 g p q && decide (p < x))) := by
      show barAt (putC _ _ _ _) _ _ = _
      unfold putC
      cases hL : bAt g.L x with
      | false => simp [h2]
      | true => simp only [if_true]; rw [(s3 hL).1 p q n, h2]; simp [hL]
    rw [h3]
    by_cases hp : p = x
    · have := lastrow p q n hp
      subst hp
      simp only [true_and, show decide (p < p) = false from decide_eq_false (by omega), Bool.and_false, show decide (p < p + 1) = true from decide_eq_true (by omega), Bool.and_true]
      rcases this with ⟨rfl, b⟩ | ⟨rfl, b⟩
      · have hb : bar0 g p (p + 1) = bAt g.R p := by unfold bar0; rw [if_pos b]
        rw [hb]
        have : ¬ (p + 1 = p + g.w ∧ bAt g.L p = true) := by
          rintro ⟨a, c⟩
          have := nb_cases w0 n
          have h2 := Int.emod_nonneg p (show g.w ≠ 0 by omega)
          omega
        rw [if_neg this]
        cases bAt g.R p <;> simp
      · have hb : bar0 g p (p + g.w) = bAt g.L p := by unfold bar0; rw [if_neg b]
        rw [hb]
        have : ¬ (p + g.w = p + 1 ∧ bAt g.R p = true) := by
          rintro ⟨a, c⟩
          have := R.last p x0 x1 c
          have h2 := Int.emod_nonneg p (show g.w ≠ 0 by omega)
          omega
        rw [if_neg this]
        cases bAt g.L p <;> simp
    · simp only [hp, false_and, if_false]
      congr 1
      by_cases hl : p < x
      · rw [decide_eq_true hl, decide_eq_true (by omega)]
      · rw [decide_eq_false hl, decide_eq_false (by omega)]
  · rw [f3.2.1, f2.2.1] at hj
    have e1 := P.last j j0 j1 hj
    have e2 : bAt G2.R j = false := by
      show bAt (putC _ _ _ _).R _ = _
      unfold putC
      cases hR : bAt g.R x with
      | false => exact e1
      | true => simp only [if_true]; rw [(s2 hR).2.1 j j0 j1 hj]; exact e1
    show bAt (putC _ _ _ _).R _ = _
    unfold putC
    cases hL : bAt g.L x with
    | false => exact e2
    | true => simp only [if_true]; rw [(s3 hL).2.1 j j0 j1 (by rw [f2.2.1]; exact hj)]; exact e2
  · rw [f3.2.1, f3.1, f2.2.1, f2.1] at hj
    have e1 := P.low j j0 j1 hj
    have e2 : bAt G2.L j = false := by
      show bAt (putC _ _ _ _).L _ = _
      unfold putC
      cases hR : bAt g.R x with
      | false => exact e1
      | true => simp only [if_true]; rw [(s2 hR).2.2 j j0 j1 hj]; exact e1
    show bAt (putC _ _ _ _).L _ = _
    unfold putC
    cases hL : bAt g.L x with
    | false => exact e2
    | true => simp only [if_true]; rw [(s3 hL).2.2 j j0 j1 (by rw [f2.2.1, f2.1]; exact hj)]; exact e2

theorem fold_part {g : Gr} {k : Int} (R : Right g) (k1 : 0 ≤ k ∧ k < 8) : ∀ (m : Nat) (x : Int) (G : Gr), 0 ≤ x → x + m = g.h * g.w → Part g k x G → Part g k (g.h * g.w) (foldT g k m x G)
  | 0, x, G, x0, hx, P => by
    have : x = g.h * g.w := by omega
    subst this
    exact P
  | m + 1, x, G, x0, hx, P => fold_part R k1 m (x + 1) _ (by omega) (by omega) (P.step R k1 x0 (by omega))

theorem turn_is {g : Gr} {k : Int} (R : Right g) (k1 : 0 ≤ k ∧ k < 8) : IsTurn g k (turnF g k) := by
  have hw := hw_in (side_iff.2 R.h1) (side_iff.2 R.w1)
  exact (fold_part R k1 _ 0 _ (by omega) (by omega) (Part.start R k1)).fin

theorem turn_right {g : Gr} {k : Int} (R : Right g) (k1 : 0 ≤ k ∧ k < 8) : Right (turnF g k) := (turn_is R k1).right k1 R

theorem turn_zero {g : Gr} (R : Right g) : turnF g 0 = g := (turn_is R (by omega)).unique R.h1 R.w1 (by omega) (.refl R)

theorem turn_turn {g : Gr} {a b : Int} (R : Right g) (ha : 0 ≤ a ∧ a < 8) (hb : 0 ≤ b ∧ b < 8) : turnF (turnF g a) b = turnF g (thenF a b) :=
  ((turn_is R ha).trans R.h1 R.w1 ha hb (turn_is (turn_right R ha) hb)).unique R.h1 R.w1 (then_in ha hb) (turn_is R (then_in ha hb))

end Go.Proofs.YtnakmganodkliaaDoorAm
