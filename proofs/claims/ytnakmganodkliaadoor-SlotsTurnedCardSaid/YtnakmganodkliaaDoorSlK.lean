/- Turned grids, as plain laws: as many slots, crossings and lone cells. -/
import Derived.Test.YtnakmganodkliaaDoorSlJ
set_option linter.unusedVariables false
set_option linter.unusedSimpArgs false
set_option maxRecDepth 100000
namespace Go.Proofs.YtnakmganodkliaaDoorAm
open Go

/-! ### Counting -/

def cellsL : Nat → Int → List Int
  | 0, _ => []
  | m + 1, i => i :: cellsL m (i + 1)

theorem mem_cells {c : Int} : ∀ {m : Nat} {i : Int}, c ∈ cellsL m i ↔ i ≤ c ∧ c < i + m
  | 0, i => by
    simp only [cellsL, List.not_mem_nil, false_iff]
    omega
  | m + 1, i => by
    simp only [cellsL, List.mem_cons, mem_cells (m := m)]
    omega

theorem nodup_cells : ∀ (m : Nat) (i : Int), (cellsL m i).Nodup
  | 0, _ => List.nodup_nil
  | m + 1, i => List.nodup_cons.2 ⟨fun h => by have := mem_cells.1 h; omega, nodup_cells m (i + 1)⟩

theorem inj_le {π : Int → Int} : ∀ (l m : List Int), l.Nodup → (∀ x ∈ l, π x ∈ m) → (∀ x ∈ l, ∀ y ∈ l, π x = π y → x = y) → l.length ≤ m.length
  | [], _, _, _, _ => by simp
  | x :: l, m, hn, hm, hi => by
    have hn' := List.nodup_cons.1 hn
    have h1 := hm x List.mem_cons_self
    have h2 := inj_le l (m.erase (π x)) hn'.2 (fun y hy => (List.mem_erase_of_ne (fun e => hn'.1 (by
      have := hi y (List.mem_cons_of_mem _ hy) x List.mem_cons_self e
      rw [← this]; exact hy))).2 (hm y (List.mem_cons_of_mem _ hy))) (fun a ha b hb e => hi a (List.mem_cons_of_mem _ ha) b (List.mem_cons_of_mem _ hb) e)
    rw [List.length_erase_of_mem h1] at h2
    have := List.length_pos_of_mem h1
    simp only [List.length_cons]
    omega

def cnt (N : Nat) (f : Int → Bool) : Nat := ((cellsL N 0).filter f).length

theorem cnt_le {N : Nat} {f f' : Int → Bool} (π : Int → Int) (hm : ∀ c : Int, 0 ≤ c → c < N → f c = true → 0 ≤ π c ∧ π c < N ∧ f' (π c) = true) (hi : ∀ c e : Int, 0 ≤ c → c < N → f c = true → 0 ≤ e → e < N → f e = true → π c = π e → c = e) : cnt N f ≤ cnt N f' := by
  refine inj_le (π := π) _ _ ((nodup_cells N 0).filter _) ?_ ?_
  · intro x hx
    obtain ⟨h1, h2⟩ := List.mem_filter.1 hx
    have h3 := mem_cells.1 h1
    obtain ⟨a, b, c⟩ := hm x (by omega) (by omega) h2
    exact List.mem_filter.2 ⟨mem_cells.2 (by omega), c⟩
  · intro x hx y hy e
    obtain ⟨h1, h2⟩ := List.mem_filter.1 hx
    obtain ⟨h3, h4⟩ := List.mem_filter.1 hy
    have h5 := mem_cells.1 h1
    have h6 := mem_cells.1 h3
    exact hi x y (by omega) (by omega) h2 (by omega) (by omega) h4 e

theorem filter_split (p q : Int → Bool) : ∀ l : List Int, (l.filter p).length = (l.filter fun c => p c && q c).length + (l.filter fun c => p c && !q c).length
  | [] => rfl
  | x :: l => by
    have ih := filter_split p q l
    simp only [List.filter_cons]
    cases p x <;> cases q x <;> simp <;> omega

theorem filter_xor (p q : Int → Bool) : ∀ l : List Int, (l.filter fun c => p c != q c).length = (l.filter fun c => p c && !q c).length + (l.filter fun c => q c && !p c).length
  | [] => rfl
  | x :: l => by
    have ih := filter_xor p q l
    simp only [List.filter_cons]
    cases p x <;> cases q x <;> simp at ih ⊢ <;> omega

/-! ### Links -/

def Lk (g : Gr) (d : Bool) (p q : Int) : Prop := stepF g p (dirI d) = (q, true)

theorem lk_iff {g : Gr} (R : Right g) {d : Bool} {p q : Int} : Lk g d p q ↔ Nb g.h g.w p q ∧ bAt g.B p = false ∧ bAt g.B q = false ∧ bar0 g p q = false ∧ (d = true ↔ q / g.w ≠ p / g.w) := by
  have hc := right_iff.2 R
  have hw1 := R.w1
  constructor
  · intro h
    have hf := step_facts (g := g) (i := p) (y := dirI d) (by rw [Lk] at h; rw [h])
    have h2 := hf.2.2.2.2.2.2
    rw [show (stepF g p (dirI d)).1 = q by rw [Lk] at h; rw [h]] at h2
    obtain ⟨_, p0, p1, bp⟩ := open_in hf.1
    have ho := hf.2.1
    rw [show (stepF g p (dirI d)).1 = q by rw [Lk] at h; rw [h]] at ho
    have bq := (open_in ho).2.2.2
    cases d
    · have h3 : stepTo g (decide (p % g.w < g.w - 1) && !bAt g.R p) (p + 1) = (q, true) := h2
      obtain ⟨ok, _, rfl⟩ := stepTo_iff.1 h3
      rw [Bool.and_eq_true, decide_eq_true_eq, Bool.not_eq_true'] at ok
      have n := nb_right (h := g.h) hw1.1 ⟨p0, p1⟩ ok.1
      have hs : (p + 1) / g.w = p / g.w := by
        rcases nb_cases hw1.1 n with h | h
        · exact h.2.2.1
        · have : g.w = 1 := by omega
          have := Int.emod_nonneg p (b := g.w) (by omega)
          omega
      refine ⟨n, bp, bq, ?_, by simp [hs]⟩
      rw [bar0, if_pos hs]
      exact ok.2
    · have h3 : stepTo g (decide (p / g.w < g.h - 1) && !bAt g.L p) (p + g.w) = (q, true) := h2
      obtain ⟨ok, _, rfl⟩ := stepTo_iff.1 h3
      rw [Bool.and_eq_true, decide_eq_true_eq, Bool.not_eq_true'] at ok
      have n := nb_down hw1.1 ⟨p0, p1⟩ ok.1
      have hs : (p + g.w) / g.w = p / g.w + 1 := by
        rw [Int.add_ediv_of_dvd_right (Int.dvd_refl _), Int.ediv_self (by omega)]
      refine ⟨n, bp, bq, ?_, ⟨fun _ => by omega, fun _ => rfl⟩⟩
      rw [bar0, if_neg (by omega)]
      exact ok.2
  · rintro ⟨n, bp, bq, hb, hd⟩
    have n' := n
    obtain ⟨⟨p0, p1⟩, ⟨q0, q1⟩, _⟩ := n'
    have ho : openF g p = true := by
      unfold openF
      rw [hc, bp]
      simp only [beq_self_eq_true, Bool.true_and, Bool.not_false, Bool.and_true, Bool.and_eq_true, decide_eq_true_eq]
      exact ⟨p0, p1⟩
    rw [Lk, stepF, ho]
    show stepIn g p (dirI d) = _
    have hl : p / g.w ≠ q / g.w ∨ p / g.w = q / g.w := by omega
    cases d
    · have hs : q / g.w = p / g.w := by
        by_cases e : q / g.w = p / g.w
        · exact e
        · exact absurd (hd.2 e) (by simp)
      rw [bar0, if_pos hs] at hb
      rcases nb_cases hw1.1 n with h | h
      · obtain ⟨rfl, hlt, _⟩ := h
        show stepTo g (decide (p % g.w < g.w - 1) && !bAt g.R p) (p + 1) = _
        exact stepTo_iff.2 ⟨by rw [hb, decide_eq_true hlt]; rfl, bq, rfl⟩
      · omega
    · have hs := hd.1 rfl
      rw [bar0, if_neg hs] at hb
      rcases nb_cases hw1.1 n with h | h
      · omega
      · obtain ⟨rfl, hlt, _⟩ := h
        show stepTo g (decide (p / g.w < g.h - 1) && !bAt g.L p) (p + g.w) = _
        exact stepTo_iff.2 ⟨by rw [hb, decide_eq_true hlt]; rfl, bq, rfl⟩

/-- Linked, whichever comes first. -/
def Un (g : Gr) (d : Bool) (p q : Int) : Prop := Lk g d p q ∨ Lk g d q p

theorem lk_un {g : Gr} {d : Bool} {p q q' : Int} (h : Lk g d p q) (h' : Lk g d p q') : q = q' := by
  rw [Lk] at h h'
  rw [h] at h'
  exact (Prod.mk.inj h').1

theorem lk_un2 {g : Gr} {d : Bool} {p p' q : Int} (h : Lk g d p q) (h' : Lk g d p' q) : p = p' := by
  have a := step_inv (dir_in d) h
  have b := step_inv (dir_in d) h'
  rw [a] at b
  exact (Prod.mk.inj b).1

theorem lk_lt {g : Gr} {d : Bool} {p q : Int} (h : Lk g d p q) : p < q ∧ (0 ≤ p ∧ p < g.h * g.w) ∧ 0 ≤ q ∧ q < g.h * g.w := by
  have hf := step_facts (g := g) (i := p) (y := dirI d) (by rw [Lk] at h; rw [h])
  have e : (stepF g p (dirI d)).1 = q := by rw [Lk] at h; rw [h]
  rw [e] at hf
  have a := open_in hf.1
  have b := open_in hf.2.1
  have := hf.2.2.2.2.1 (by rcases dir_in d with h | h <;> omega)
  exact ⟨this, ⟨a.2.1, a.2.2.1⟩, b.2.1, b.2.2.1⟩

theorem on_iff {g : Gr} {d : Bool} {c : Int} : (stepF g c (dirI d)).2 = true ↔ ∃ q, Lk g d c q :=
  ⟨fun h => ⟨_, Prod.ext rfl h⟩, fun ⟨q, h⟩ => by rw [Lk] at h; rw [h]⟩

theorem back_iff {g : Gr} {d : Bool} {c : Int} : (stepF g c (dirI d + 2)).2 = true ↔ ∃ p, Lk g d p c :=
  ⟨fun h => ⟨(stepF g c (dirI d + 2)).1, step_inv2 (dir_in d) (Prod.ext rfl h)⟩, fun ⟨p, h⟩ => by rw [step_inv (dir_in d) h]⟩

theorem has_iff {g : Gr} {d : Bool} {c : Int} : hasF g c d = true ↔ ∃ q, Un g d c q := by
  unfold hasF
  rw [Bool.or_eq_true, on_iff, back_iff]
  constructor
  · rintro (⟨q, h⟩ | ⟨q, h⟩)
    · exact ⟨q, .inl h⟩
    · exact ⟨q, .inr h⟩
  · rintro ⟨q, h | h⟩
    · exact .inl ⟨q, h⟩
    · exact .inr ⟨q, h⟩

/-- Just one of both: a slot begins or ends there. -/
def oneF (g : Gr) (c : Int) (d : Bool) : Bool := (stepF g c (dirI d)).2 != (stepF g c (dirI d + 2)).2

theorem one_iff {g : Gr} {d : Bool} {c : Int} : oneF g c d = true ↔ ∃ q, Un g d c q ∧ ∀ q', Un g d c q' → q' = q := by
  unfold oneF
  rw [bne_iff_ne]
  constructor
  · intro h
    rcases Bool.eq_false_or_eq_true (stepF g c (dirI d)).2 with a | a
    · rcases Bool.eq_false_or_eq_true (stepF g c (dirI d + 2)).2 with b | b
      · rw [a, b] at h; exact absurd rfl h
      · obtain ⟨q, hq⟩ := on_iff.1 a
        refine ⟨q, .inl hq, fun q' h' => ?_⟩
        rcases h' with h' | h'
        · exact lk_un h' hq
        · rw [back_iff.2 ⟨q', h'⟩] at b; cases b
    · rcases Bool.eq_false_or_eq_true (stepF g c (dirI d + 2)).2 with b | b
      · obtain ⟨q, hq⟩ := back_iff.1 b
        refine ⟨q, .inr hq, fun q' h' => ?_⟩
        rcases h' with h' | h'
        · rw [on_iff.2 ⟨q', h'⟩] at a; cases a
        · exact lk_un2 h' hq
      · rw [a, b] at h; exact absurd rfl h
  · rintro ⟨q, hq, hu⟩ e
    rcases hq with hq | hq
    · have a := on_iff.2 ⟨q, hq⟩
      rw [a] at e
      obtain ⟨p, hp⟩ := back_iff.1 e.symm
      have := hu p (.inr hp)
      have h1 := lk_lt hq
      have h2 := lk_lt hp
      omega
    · have a := back_iff.2 ⟨q, hq⟩
      rw [a] at e
      obtain ⟨p, hp⟩ := on_iff.1 e
      have := hu p (.inl hp)
      have h1 := lk_lt hq
      have h2 := lk_lt hp
      omega

/-! ### Turned -/

def oddB (k : Int) : Bool := decide (k % 2 = 1)

/-- Rows and columns side by side, turned. -/
theorem laid_row {h w r c r' c' k : Int} (k1 : 0 ≤ k ∧ k < 8) (n : (r' = r ∧ c' = c + 1) ∨ (r' = r + 1 ∧ c' = c)) :
    ((laidF h w r' c' k).1 ≠ (laidF h w r c k).1 ↔ (r' ≠ r) = (oddB k = false)) := by
  rcases turns k1 with rfl | rfl | rfl | rfl | rfl | rfl | rfl | rfl <;> rcases n with ⟨rfl, rfl⟩ | ⟨rfl, rfl⟩ <;> simp [laidF, rot, oddB] <;> omega

theorem odd_back {k : Int} (k1 : 0 ≤ k ∧ k < 8) : oddB (backF k) = oddB k := by
  rcases turns k1 with rfl | rfl | rfl | rfl | rfl | rfl | rfl | rfl <;> decide

theorem turn_link {g : Gr} {k : Int} (R : Right g) (k1 : 0 ≤ k ∧ k < 8) {d : Bool} {p q : Int} (h : Un g d p q) : Un (turnF g k) (d != oddB k) (placeF g.h g.w p k) (placeF g.h g.w q k) := by
  have T := turn_is R k1
  have RG := turn_right R k1
  have key : ∀ p q, Lk g d p q → Un (turnF g k) (d != oddB k) (placeF g.h g.w p k) (placeF g.h g.w q k) := by
    intro p q h
    obtain ⟨n, bp, bq, hb, hd⟩ := (lk_iff R).1 h
    obtain ⟨⟨p0, p1⟩, ⟨q0, q1⟩, nn⟩ := n
    have n : Nb g.h g.w p q := ⟨⟨p0, p1⟩, ⟨q0, q1⟩, nn⟩
    have rp := place_rc R.h1 R.w1 ⟨p0, p1⟩ k1
    have rq := place_rc R.h1 R.w1 ⟨q0, q1⟩ k1
    have hl := laid_row (h := g.h) (w := g.w) (r := p / g.w) (c := p % g.w) (r' := q / g.w) (c' := q % g.w) k1 nn
    have cp : bAt (turnF g k).B (placeF g.h g.w p k) = false := by rw [T.cell p p0 p1]; exact bp
    have cq : bAt (turnF g k).B (placeF g.h g.w q k) = false := by rw [T.cell q q0 q1]; exact bq
    have hbar := T.bar p q n
    rw [hb] at hbar
    have hdir : ((d != oddB k) = true ↔ (laidF g.h g.w (q / g.w) (q % g.w) k).1 ≠ (laidF g.h g.w (p / g.w) (p % g.w) k).1) := by
      rw [hl]
      cases d <;> cases hk : oddB k <;> simp at hd ⊢ <;> exact hd
    rcases place_nb R.h1 R.w1 k1 n with m | m
    · rw [← T.h, ← T.w] at m
      refine .inl ((lk_iff RG).2 ⟨m, cp, cq, by rw [← barAt_nb RG.w1.1 m]; exact hbar, ?_⟩)
      rw [T.w, rp.1, rq.1]
      exact hdir
    · rw [← T.h, ← T.w] at m
      refine .inr ((lk_iff RG).2 ⟨m, cq, cp, by rw [← barAt_nb RG.w1.1 m, barAt_comm]; exact hbar, ?_⟩)
      rw [T.w, rp.1, rq.1, hdir]
      exact ⟨fun h e => h e.symm, fun h e => h e.symm⟩
  rcases h with h | h
  · exact key p q h
  · rcases key q p h with h | h
    · exact .inr h
    · exact .inl h

theorem turn_back {g : Gr} {k : Int} (R : Right g) (k1 : 0 ≤ k ∧ k < 8) : turnF (turnF g k) (backF k) = g := by
  have hb := back_facts k1
  rw [turn_turn R k1 hb.1, hb.2.1, turn_zero R]

/-- The place there, and back. -/
theorem place_back {g : Gr} {k c : Int} (R : Right g) (k1 : 0 ≤ k ∧ k < 8) (c1 : 0 ≤ c ∧ c < g.h * g.w) :
    (0 ≤ placeF g.h g.w c k ∧ placeF g.h g.w c k < g.h * g.w) ∧ placeF (turnF g k).h (turnF g k).w (placeF g.h g.w c k) (backF k) = c := by
  have T := turn_is R k1
  have hb := back_facts k1
  rw [T.h, T.w, place_then R.h1 R.w1 c1 k1 hb.1, hb.2.1, place_zero]
  refine ⟨?_, rfl⟩
  have hl := laid_sides (h := g.h) (w := g.w) (r := c / g.w) (c := c % g.w) (row_lt R.h1 R.w1 c1) (col_lt R.w1) k1
  have hm := T.mul
  rw [T.h, T.w] at hm
  have e : placeF g.h g.w c k = (laidF g.h g.w (c / g.w) (c % g.w) k).1 * wT g.h g.w k + (laidF g.h g.w (c / g.w) (c % g.w) k).2 := rfl
  have h1 : 0 ≤ (laidF g.h g.w (c / g.w) (c % g.w) k).1 * wT g.h g.w k := Int.mul_nonneg hl.1.1 (by omega)
  have h2 : ((laidF g.h g.w (c / g.w) (c % g.w) k).1 + 1) * wT g.h g.w k ≤ hT g.h g.w k * wT g.h g.w k := Int.mul_le_mul_of_nonneg_right (by omega) (by omega)
  rw [Int.add_mul, Int.one_mul, hm] at h2
  rw [e]
  omega

theorem turn_link_iff {g : Gr} {k : Int} (R : Right g) (k1 : 0 ≤ k ∧ k < 8) {d : Bool} {p q : Int} (p1 : 0 ≤ p ∧ p < g.h * g.w) (q1 : 0 ≤ q ∧ q < g.h * g.w) :
    Un g d p q ↔ Un (turnF g k) (d != oddB k) (placeF g.h g.w p k) (placeF g.h g.w q k) := by
  refine ⟨turn_link R k1, fun h => ?_⟩
  have h2 := turn_link (turn_right R k1) (back_facts k1).1 h
  rw [turn_back R k1, (place_back R k1 p1).2, (place_back R k1 q1).2, odd_back k1] at h2
  have e : ((d != oddB k) != oddB k) = d := by cases d <;> cases oddB k <;> rfl
  rw [e] at h2
  exact h2

theorem un_in {g : Gr} {d : Bool} {p q : Int} (h : Un g d p q) : (0 ≤ p ∧ p < g.h * g.w) ∧ 0 ≤ q ∧ q < g.h * g.w := by
  rcases h with h | h
  · have := lk_lt h; exact ⟨this.2.1, this.2.2⟩
  · have := lk_lt h; exact ⟨this.2.2, this.2.1⟩

/-- Every cell of the turned grid is a cell turned. -/
theorem place_onto {g : Gr} {k c : Int} (R : Right g) (k1 : 0 ≤ k ∧ k < 8) (c1 : 0 ≤ c ∧ c < g.h * g.w) : ∃ p, (0 ≤ p ∧ p < g.h * g.w) ∧ placeF g.h g.w p k = c := by
  have T := turn_is R k1
  have hm := T.mul
  rw [T.h, T.w] at hm
  obtain ⟨a, b⟩ := inv_ex R.h1 R.w1 k1 c1
  exact ⟨_, a, b⟩

theorem turn_has {g : Gr} {k c : Int} (R : Right g) (k1 : 0 ≤ k ∧ k < 8) {d : Bool} (c1 : 0 ≤ c ∧ c < g.h * g.w) : hasF (turnF g k) (placeF g.h g.w c k) (d != oddB k) = hasF g c d := by
  rw [Bool.eq_iff_iff, has_iff, has_iff]
  have T := turn_is R k1
  constructor
  · rintro ⟨q, h⟩
    have hq := (un_in h).2
    rw [T.mul] at hq
    obtain ⟨p, p1, rfl⟩ := place_onto R k1 hq
    exact ⟨p, (turn_link_iff R k1 c1 p1).2 h⟩
  · rintro ⟨q, h⟩
    exact ⟨_, turn_link R k1 h⟩

theorem turn_one {g : Gr} {k c : Int} (R : Right g) (k1 : 0 ≤ k ∧ k < 8) {d : Bool} (c1 : 0 ≤ c ∧ c < g.h * g.w) : oneF (turnF g k) (placeF g.h g.w c k) (d != oddB k) = oneF g c d := by
  rw [Bool.eq_iff_iff, one_iff, one_iff]
  have T := turn_is R k1
  constructor
  · rintro ⟨q, h, hu⟩
    have hq := (un_in h).2
    rw [T.mul] at hq
    obtain ⟨p, p1, rfl⟩ := place_onto R k1 hq
    refine ⟨p, (turn_link_iff R k1 c1 p1).2 h, fun q' h' => ?_⟩
    have e := hu _ (turn_link R k1 h')
    rw [← (place_back R k1 (un_in h').2).2, e, (place_back R k1 p1).2]
  · rintro ⟨q, h, hu⟩
    refine ⟨_, turn_link R k1 h, fun q' h' => ?_⟩
    have hq := (un_in h').2
    rw [T.mul] at hq
    obtain ⟨p, p1, rfl⟩ := place_onto R k1 hq
    rw [hu p ((turn_link_iff R k1 c1 p1).2 h')]

theorem cnt_turn {g : Gr} {k : Int} (R : Right g) (k1 : 0 ≤ k ∧ k < 8) {f f' : Int → Bool} (h : ∀ c, 0 ≤ c → c < g.h * g.w → f' (placeF g.h g.w c k) = f c) : cnt (g.h * g.w).toNat f = cnt (g.h * g.w).toNat f' := by
  have hp := fun (c : Int) (h : 0 ≤ c ∧ c < g.h * g.w) => place_back (c := c) R k1 h
  refine Nat.le_antisymm ?_ ?_
  · refine cnt_le (fun c => placeF g.h g.w c k) (fun c c0 c1 hf => ?_) (fun c e c0 c1 _ e0 e1 _ he => ?_)
    · have := hp c ⟨c0, by omega⟩
      exact ⟨this.1.1, by omega, by rw [h c c0 (by omega)]; exact hf⟩
    · have a := (hp c ⟨c0, by omega⟩).2
      have b := (hp e ⟨e0, by omega⟩).2
      have he : placeF g.h g.w c k = placeF g.h g.w e k := he
      rw [he] at a
      exact a.symm.trans b
  · have hx : ∀ c, 0 ≤ c → c < g.h * g.w → ∃ p, (0 ≤ p ∧ p < g.h * g.w) ∧ placeF g.h g.w p k = c ∧ placeF (turnF g k).h (turnF g k).w c (backF k) = p := fun c c0 c1 => by
      obtain ⟨p, p1, e⟩ := place_onto R k1 ⟨c0, c1⟩
      exact ⟨p, p1, e, by rw [← e]; exact (hp p p1).2⟩
    refine cnt_le (fun c => placeF (turnF g k).h (turnF g k).w c (backF k)) (fun c c0 c1 hf => ?_) (fun c e c0 c1 _ e0 e1 _ he => ?_)
    · obtain ⟨p, p1, e, e2⟩ := hx c c0 (by omega)
      show 0 ≤ placeF _ _ c _ ∧ _
      rw [e2]
      exact ⟨p1.1, by omega, by rw [← h p p1.1 p1.2, e]; exact hf⟩
    · obtain ⟨p, p1, h1, h2⟩ := hx c c0 (by omega)
      obtain ⟨q, q1, h3, h4⟩ := hx e e0 (by omega)
      have he : placeF (turnF g k).h (turnF g k).w c (backF k) = placeF (turnF g k).h (turnF g k).w e (backF k) := he
      rw [h2, h4] at he
      rw [← h1, ← h3, he]

/-! ### Slots, crossings, lone cells, counted -/

def downs (S : List (Int × Bool × List Int)) (d : Bool) : Nat := (S.filter fun x => x.2.1 == d).length

theorem downs_from {g : Gr} {d : Bool} : ∀ (m : Nat) (i num : Int), downs (slotsFrom g m i num) d = ((cellsL m i).filter fun c => beginsB g c (dirI d)).length
  | 0, _, _ => rfl
  | m + 1, i, num => by
    have ih := downs_from (g := g) (d := d) m (i + 1) (if beginsB g i 0 || beginsB g i 1 then num + 1 else num)
    unfold downs at ih ⊢
    simp only [slotsFrom, cellsL, List.filter_append, List.length_append, List.filter_cons]
    rw [ih]
    cases d
    · show _ = (if beginsB g i 0 = true then _ else _ : List Int).length
      cases beginsB g i 0 <;> cases beginsB g i 1 <;> simp <;> omega
    · show _ = (if beginsB g i 1 = true then _ else _ : List Int).length
      cases beginsB g i 0 <;> cases beginsB g i 1 <;> simp <;> omega

/-- Twice the slots of a direction: where one begins or ends. -/
theorem downs_one {g : Gr} (R : Right g) (d : Bool) : 2 * downs (slotsF g) d = cnt (g.h * g.w).toNat fun c => oneF g c d := by
  have hc := right_iff.2 R
  have e : slotsF g = slotsFrom g (g.h * g.w).toNat 0 0 := if_pos hc
  rw [e, downs_from]
  have hx := filter_xor (fun c => (stepF g c (dirI d)).2) (fun c => (stepF g c (dirI d + 2)).2) (cellsL (g.h * g.w).toNat 0)
  have h1 := filter_split (fun c => (stepF g c (dirI d)).2) (fun c => (stepF g c (dirI d + 2)).2) (cellsL (g.h * g.w).toNat 0)
  have h2 := filter_split (fun c => (stepF g c (dirI d + 2)).2) (fun c => (stepF g c (dirI d)).2) (cellsL (g.h * g.w).toNat 0)
  have hb : ((cellsL (g.h * g.w).toNat 0).filter fun c => beginsB g c (dirI d)) = (cellsL (g.h * g.w).toNat 0).filter fun c => (stepF g c (dirI d)).2 && !(stepF g c (dirI d + 2)).2 := by
    refine List.filter_congr fun c _ => ?_
    unfold beginsB
    rw [Bool.and_comm]
  have hb2 : ((cellsL (g.h * g.w).toNat 0).filter fun c => (stepF g c (dirI d + 2)).2 && (stepF g c (dirI d)).2) = (cellsL (g.h * g.w).toNat 0).filter fun c => (stepF g c (dirI d)).2 && (stepF g c (dirI d + 2)).2 := by
    refine List.filter_congr fun c _ => ?_
    rw [Bool.and_comm]
  have a1 : cnt (g.h * g.w).toNat (fun c => (stepF g c (dirI d)).2) ≤ cnt (g.h * g.w).toNat (fun c => (stepF g c (dirI d + 2)).2) :=
    cnt_le (fun c => (stepF g c (dirI d)).1) (fun c c0 c1 hf => by
      obtain ⟨q, hq⟩ := on_iff.1 hf
      have hl := lk_lt hq
      have eq : (stepF g c (dirI d)).1 = q := by rw [Lk] at hq; rw [hq]
      show 0 ≤ (stepF g c (dirI d)).1 ∧ _
      rw [eq]
      exact ⟨hl.2.2.1, by omega, back_iff.2 ⟨c, hq⟩⟩) (fun c e c0 c1 hf e0 e1 hf' he => by
      obtain ⟨q, hq⟩ := on_iff.1 hf
      obtain ⟨q', hq'⟩ := on_iff.1 hf'
      have e1 : (stepF g c (dirI d)).1 = q := by rw [Lk] at hq; rw [hq]
      have e2 : (stepF g e (dirI d)).1 = q' := by rw [Lk] at hq'; rw [hq']
      have he : (stepF g c (dirI d)).1 = (stepF g e (dirI d)).1 := he
      rw [e1, e2] at he
      subst he
      exact lk_un2 hq hq')
  have a2 : cnt (g.h * g.w).toNat (fun c => (stepF g c (dirI d + 2)).2) ≤ cnt (g.h * g.w).toNat (fun c => (stepF g c (dirI d)).2) :=
    cnt_le (fun c => (stepF g c (dirI d + 2)).1) (fun c c0 c1 hf => by
      have hp := step_inv2 (dir_in d) (show stepF g c (dirI d + 2) = ((stepF g c (dirI d + 2)).1, true) from Prod.ext rfl hf)
      have hl := lk_lt (show Lk g d _ _ from hp)
      exact ⟨hl.2.1.1, by omega, on_iff.2 ⟨c, hp⟩⟩) (fun c e c0 c1 hf e0 e1 hf' he => by
      have hp := step_inv2 (dir_in d) (show stepF g c (dirI d + 2) = ((stepF g c (dirI d + 2)).1, true) from Prod.ext rfl hf)
      have hp' := step_inv2 (dir_in d) (show stepF g e (dirI d + 2) = ((stepF g e (dirI d + 2)).1, true) from Prod.ext rfl hf')
      have he : (stepF g c (dirI d + 2)).1 = (stepF g e (dirI d + 2)).1 := he
      rw [he] at hp
      exact lk_un (show Lk g d _ _ from hp) hp')
  unfold cnt at a1 a2 ⊢
  unfold oneF
  rw [hb2] at h2
  rw [hb]
  omega

theorem turn_downs {g : Gr} {k : Int} (R : Right g) (k1 : 0 ≤ k ∧ k < 8) (d : Bool) : downs (slotsF (turnF g k)) (d != oddB k) = downs (slotsF g) d := by
  have a := downs_one R d
  have b := downs_one (turn_right R k1) (d != oddB k)
  rw [(turn_is R k1).mul] at b
  have := cnt_turn R k1 (f := fun c => oneF g c d) (f' := fun c => oneF (turnF g k) c (d != oddB k)) (fun c c0 c1 => turn_one R k1 ⟨c0, c1⟩)
  omega

theorem downs_len : ∀ S : List (Int × Bool × List Int), S.length = downs S false + downs S true
  | [] => rfl
  | x :: S => by
    have ih := downs_len S
    unfold downs at ih ⊢
    simp only [List.filter_cons, List.length_cons]
    cases x.2.1 <;> simp only [beq_self_eq_true, if_true, Bool.true_beq, Bool.false_beq, Bool.not_true, Bool.not_false, Bool.false_eq_true, if_false, beq_true, beq_false, List.length_cons] at ih ⊢ <;> omega

theorem turn_len {g : Gr} {k : Int} (R : Right g) (k1 : 0 ≤ k ∧ k < 8) : (slotsF (turnF g k)).length = (slotsF g).length := by
  rw [downs_len, downs_len]
  have a := turn_downs R k1 false
  have b := turn_downs R k1 true
  cases h : oddB k <;> rw [h] at a b <;> simp at a b <;> omega

/-- Across one more, down one less. -/
def signs : List (Int × Bool × List Int) → Int
  | [] => 0
  | x :: S => (if x.2.1 then -1 else 1) + signs S

theorem signs_downs : ∀ S : List (Int × Bool × List Int), signs S = (downs S false : Int) - downs S true
  | [] => rfl
  | x :: S => by
    have ih := signs_downs S
    unfold downs at ih ⊢
    simp only [signs, List.filter_cons]
    cases x.2.1 <;> simp only [beq_self_eq_true, if_true, Bool.true_beq, Bool.false_beq, Bool.not_true, Bool.not_false, Bool.false_eq_true, if_false, beq_true, beq_false, List.length_cons] at ih ⊢ <;> omega

theorem signs_mirror {g : Gr} (R : Right g) : signs (slotsF g) + signs (slotsF (turnF g 7)) = 0 := by
  have a := turn_downs R (k := 7) (by omega) false
  have b := turn_downs R (k := 7) (by omega) true
  have h : oddB 7 = true := by decide
  rw [h] at a b
  simp at a b
  rw [signs_downs, signs_downs]
  omega

theorem cross_from {g : Gr} (hc : checkF g = 0) : ∀ (m : Nat) (i : Int), 0 ≤ i → i + m = g.h * g.w → crossN ((seatsF g).1.drop i.toNat) ((seatsF g).2.drop i.toNat) = (((cellsL m i).filter fun c => hasF g c false && hasF g c true).length : Int)
  | 0, i, i0, him => by
    have hs := seats_are hc i0
    rw [List.drop_eq_nil_of_le (by omega), List.drop_eq_nil_of_le (by omega)]
    rfl
  | m + 1, i, i0, him => by
    have hs := seats_are hc i0
    have ih := cross_from hc m (i + 1) (by omega) (by omega)
    have a := (seat_ok hc hs.1).has
    have b := (seat_ok hc hs.2.1).has
    have e1 := drop_at (xs := (seatsF g).1) (i := i) ((-1 : Int), (0 : Int)) i0 (by omega)
    have e2 := drop_at (xs := (seatsF g).2) (i := i) ((-1 : Int), (0 : Int)) i0 (by omega)
    rw [e1, e2]
    simp only [crossN, cellsL, List.filter_cons]
    rw [ih, ← a, ← b]
    show (if 0 ≤ (sAt (seatsF g).1 i).1 ∧ 0 ≤ (sAt (seatsF g).2 i).1 then (1 : Int) else 0) + _ = _
    by_cases h1 : 0 ≤ (sAt (seatsF g).1 i).1 <;> by_cases h2 : 0 ≤ (sAt (seatsF g).2 i).1 <;> simp [h1, h2] <;> omega

theorem lone_from {g : Gr} (hc : checkF g = 0) : ∀ (m : Nat) (i : Int), 0 ≤ i → i + m = g.h * g.w → (loneL g i ((seatsF g).1.drop i.toNat) ((seatsF g).2.drop i.toNat)).length = ((cellsL m i).filter fun c => !bAt g.B c && (!hasF g c false && !hasF g c true)).length
  | 0, i, i0, him => by
    have hs := seats_are hc i0
    rw [List.drop_eq_nil_of_le (by omega), List.drop_eq_nil_of_le (by omega)]
    rfl
  | m + 1, i, i0, him => by
    have hs := seats_are hc i0
    have ih := lone_from hc m (i + 1) (by omega) (by omega)
    have a := (seat_ok hc hs.1).has
    have b := (seat_ok hc hs.2.1).has
    have e1 := drop_at (xs := (seatsF g).1) (i := i) ((-1 : Int), (0 : Int)) i0 (by omega)
    have e2 := drop_at (xs := (seatsF g).2) (i := i) ((-1 : Int), (0 : Int)) i0 (by omega)
    rw [e1, e2]
    simp only [loneL, cellsL, List.filter_cons, List.length_append]
    rw [ih, ← a, ← b]
    show (if bAt g.B i = false ∧ (sAt (seatsF g).1 i).1 < 0 ∧ (sAt (seatsF g).2 i).1 < 0 then [i] else []).length + _ = _
    have n1 : ((sAt (seatsF g).1 i).1 < 0) = ¬ 0 ≤ (sAt (seatsF g).1 i).1 := by simp
    have n2 : ((sAt (seatsF g).2 i).1 < 0) = ¬ 0 ≤ (sAt (seatsF g).2 i).1 := by simp
    simp only [n1, n2]
    cases bAt g.B i <;> by_cases h1 : 0 ≤ (sAt (seatsF g).1 i).1 <;> by_cases h2 : 0 ≤ (sAt (seatsF g).2 i).1 <;> simp [h1, h2] <;> omega

theorem turn_both {g : Gr} {k c : Int} (R : Right g) (k1 : 0 ≤ k ∧ k < 8) (c1 : 0 ≤ c ∧ c < g.h * g.w) (b : Bool → Bool → Bool) (hb : ∀ x y, b x y = b y x) :
    b (hasF (turnF g k) (placeF g.h g.w c k) false) (hasF (turnF g k) (placeF g.h g.w c k) true) = b (hasF g c false) (hasF g c true) := by
  have e1 := turn_has R k1 (d := false) c1
  have e2 := turn_has R k1 (d := true) c1
  cases h : oddB k <;> rw [h] at e1 e2 <;> simp at e1 e2
  · rw [e1, e2]
  · rw [e1, e2, hb]

theorem turn_cross {g : Gr} {k : Int} (R : Right g) (k1 : 0 ≤ k ∧ k < 8) : crossF (turnF g k) = crossF g := by
  have RG := turn_right R k1
  have hw := hw_in (chk0.1 (right_iff.2 R)).1 (chk0.1 (right_iff.2 R)).2.1
  have hm := (turn_is R k1).mul
  have a := cross_from (right_iff.2 R) (g.h * g.w).toNat 0 (by omega) (by omega)
  have b := cross_from (right_iff.2 RG) (g.h * g.w).toNat 0 (by omega) (by omega)
  simp only [show (0 : Int).toNat = 0 by rfl, List.drop_zero] at a b
  unfold crossF
  rw [a, b]
  have := cnt_turn R k1 (f := fun c => hasF g c false && hasF g c true) (f' := fun c => hasF (turnF g k) c false && hasF (turnF g k) c true) (fun c c0 c1 => turn_both R k1 ⟨c0, c1⟩ (fun x y => x && y) (fun x y => Bool.and_comm x y))
  unfold cnt at this
  omega

theorem turn_lone {g : Gr} {k : Int} (R : Right g) (k1 : 0 ≤ k ∧ k < 8) : (loneF (turnF g k)).length = (loneF g).length := by
  have RG := turn_right R k1
  have T := turn_is R k1
  have hw := hw_in (chk0.1 (right_iff.2 R)).1 (chk0.1 (right_iff.2 R)).2.1
  have hm := T.mul
  have a := lone_from (right_iff.2 R) (g.h * g.w).toNat 0 (by omega) (by omega)
  have b := lone_from (right_iff.2 RG) (g.h * g.w).toNat 0 (by omega) (by omega)
  simp only [show (0 : Int).toNat = 0 by rfl, List.drop_zero] at a b
  unfold loneF
  rw [a, b]
  have := cnt_turn R k1 (f := fun c => !bAt g.B c && (!hasF g c false && !hasF g c true)) (f' := fun c => !bAt (turnF g k).B c && (!hasF (turnF g k) c false && !hasF (turnF g k) c true)) (fun c c0 c1 => by
    have h1 := turn_both R k1 ⟨c0, c1⟩ (fun x y => !x && !y) (fun x y => Bool.and_comm _ _)
    have h2 := T.cell c c0 c1
    show (!bAt (turnF g k).B (placeF g.h g.w c k) && (!hasF (turnF g k) (placeF g.h g.w c k) false && !hasF (turnF g k) (placeF g.h g.w c k) true)) = _
    rw [h2]
    exact congrArg _ h1)
  unfold cnt at this
  omega

end Go.Proofs.YtnakmganodkliaaDoorAm
