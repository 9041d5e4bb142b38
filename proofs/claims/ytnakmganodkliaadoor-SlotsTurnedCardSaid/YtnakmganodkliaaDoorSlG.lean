/- Seats, as plain laws: what the lists that are laid slot by slot tell of each cell. -/
import Derived.Test.YtnakmganodkliaaDoorSlF
set_option linter.unusedVariables false
set_option linter.unusedSimpArgs false
set_option maxRecDepth 100000
namespace Go.Proofs.YtnakmganodkliaaDoorAm
open Go

def sAt (A : List (Int × Int)) (c : Int) : Int × Int := A.getD c.toNat (-1, 0)

theorem sAt_set {A : List (Int × Int)} {x y : Int} {v : Int × Int} (x0 : 0 ≤ x) (y0 : 0 ≤ y) (yl : y < A.length) : sAt (A.set y.toNat v) x = if x = y then v else sAt A x := by
  unfold sAt
  rw [List.getD_eq_getElem?_getD, List.getD_eq_getElem?_getD, List.getElem?_set]
  by_cases h : x = y
  · subst h
    rw [if_pos rfl, if_pos rfl, if_pos (by omega)]
    rfl
  · rw [if_neg (by omega), if_neg h]

theorem lay_no (s c : Int) (c0 : 0 ≤ c) : ∀ (cs : List Int) (k : Int) (A : List (Int × Int)), (∀ x ∈ cs, 0 ≤ x ∧ x < (A.length : Int)) → (∀ x ∈ cs, x ≠ c) → sAt (layCells s k cs A) c = sAt A c
  | [], _, _, _, _ => rfl
  | x :: cs, k, A, hr, hn => by
    have h0 := hr x List.mem_cons_self
    have h1 := hn x List.mem_cons_self
    simp only [layCells]
    rw [lay_no s c c0 cs (k + 1) _ (fun z hz => by rw [List.length_set]; exact hr z (List.mem_cons_of_mem _ hz)) (fun z hz => hn z (List.mem_cons_of_mem _ hz)), sAt_set c0 h0.1 h0.2, if_neg (fun e => h1 e.symm)]

theorem lay_yes (s c : Int) (c0 : 0 ≤ c) : ∀ (cs : List Int) (k : Int) (A : List (Int × Int)) (j : Nat), (∀ x ∈ cs, 0 ≤ x ∧ x < (A.length : Int)) → j < cs.length → cs.getD j 0 = c → (∀ j', j < j' → j' < cs.length → cs.getD j' 0 ≠ c) → sAt (layCells s k cs A) c = (s, k + j)
  | [], _, _, _, _, hj, _, _ => by simp at hj
  | x :: cs, k, A, 0, hr, hj, he, hu => by
    have h0 := hr x List.mem_cons_self
    have e : x = c := he
    simp only [layCells]
    rw [lay_no s c c0 cs (k + 1) _ (fun z hz => by rw [List.length_set]; exact hr z (List.mem_cons_of_mem _ hz)) (fun z hz => ?_), sAt_set c0 h0.1 h0.2, if_pos e.symm]
    · simp
    · obtain ⟨n, hn, rfl⟩ := List.mem_iff_getElem.1 hz
      have := hu (n + 1) (by omega) (by simp only [List.length_cons]; omega)
      rw [List.getD_cons_succ, List.getD_eq_getElem?_getD, List.getElem?_eq_getElem hn] at this
      exact this
  | x :: cs, k, A, j + 1, hr, hj, he, hu => by
    simp only [layCells]
    simp only [List.length_cons] at hj
    rw [lay_yes s c c0 cs (k + 1) _ j (fun z hz => by rw [List.length_set]; exact hr z (List.mem_cons_of_mem _ hz)) (by omega) he (fun j' a b => by
      have := hu (j' + 1) (by omega) (by simp only [List.length_cons]; omega)
      exact this)]
    refine Prod.ext rfl ?_
    show k + 1 + (j : Int) = k + ((j + 1 : Nat) : Int)
    omega

/-- What is told of a cell: its slot and its place in it, or that it has none. -/
def IsSeat (S : List (Int × Bool × List Int)) (d : Bool) (c : Int) (v : Int × Int) : Prop := (∀ s k : Nat, Sits S d c s k → v = ((s : Int), (k : Int))) ∧ ((∀ s k : Nat, ¬ Sits S d c s k) → v = (-1, 0))

theorem isSeat_unique {S : List (Int × Bool × List Int)} {d : Bool} {c : Int} {v v' : Int × Int} (h : IsSeat S d c v) (h' : IsSeat S d c v') : v = v' := by
  by_cases hx : ∃ s k, Sits S d c s k
  · obtain ⟨s, k, hs⟩ := hx
    rw [h.1 s k hs, h'.1 s k hs]
  · rw [h.2 (fun s k hs => hx ⟨s, k, hs⟩), h'.2 (fun s k hs => hx ⟨s, k, hs⟩)]

theorem sits_snoc {P : List (Int × Bool × List Int)} {x : Int × Bool × List Int} {d : Bool} {c : Int} {s k : Nat} : Sits (P ++ [x]) d c s k ↔ Sits P d c s k ∨ (s = P.length ∧ x.2.1 = d ∧ k < x.2.2.length ∧ x.2.2.getD k 0 = c) := by
  unfold Sits
  constructor
  · rintro ⟨z, hz, h⟩
    rcases Nat.lt_trichotomy s P.length with hl | hl | hl
    · rw [List.getElem?_append_left hl] at hz
      exact .inl ⟨z, hz, h⟩
    · subst hl
      rw [List.getElem?_append_right (Nat.le_refl _), Nat.sub_self] at hz
      simp only [List.getElem?_cons_zero, Option.some.injEq] at hz
      subst hz
      exact .inr ⟨rfl, h⟩
    · rw [List.getElem?_eq_none (by simp; omega)] at hz
      cases hz
  · rintro (⟨z, hz, h⟩ | ⟨rfl, h⟩)
    · have hl := (List.getElem?_eq_some_iff.1 hz).1
      exact ⟨z, by rw [List.getElem?_append_left hl]; exact hz, h⟩
    · exact ⟨x, by rw [List.getElem?_append_right (Nat.le_refl _), Nat.sub_self]; rfl, h⟩

/-- One more slot, of this direction. -/
theorem seat_lay {P : List (Int × Bool × List Int)} {x : Int × Bool × List Int} {d : Bool} {c : Int} {A : List (Int × Int)} (c0 : 0 ≤ c) (hr : ∀ z ∈ x.2.2, 0 ≤ z ∧ z < (A.length : Int)) (hd : x.2.1 = d)
    (hu : ∀ s k s' k', Sits (P ++ [x]) d c s k → Sits (P ++ [x]) d c s' k' → s = s' ∧ k = k') (h : IsSeat P d c (sAt A c)) : IsSeat (P ++ [x]) d c (sAt (layCells P.length 0 x.2.2 A) c) := by
  by_cases hx : ∃ k, k < x.2.2.length ∧ x.2.2.getD k 0 = c
  · obtain ⟨k, hk, hg⟩ := hx
    have hs : Sits (P ++ [x]) d c P.length k := sits_snoc.2 (.inr ⟨rfl, hd, hk, hg⟩)
    have e := lay_yes P.length c c0 x.2.2 0 A k hr hk hg (fun j' a b hj => by
      have := (hu _ _ _ _ hs (sits_snoc.2 (.inr ⟨rfl, hd, b, hj⟩))).2
      omega)
    refine ⟨fun s' k' h' => ?_, fun hn => absurd hs (hn _ _)⟩
    obtain ⟨a, b⟩ := hu _ _ _ _ hs h'
    rw [e, ← a, ← b]
    simp
  · have e := lay_no P.length c c0 x.2.2 0 A hr (fun z hz hzc => by
      obtain ⟨n, hn, rfl⟩ := List.mem_iff_getElem.1 hz
      exact hx ⟨n, hn, by rw [List.getD_eq_getElem?_getD, List.getElem?_eq_getElem hn]; exact hzc⟩)
    rw [e]
    refine ⟨fun s k hs => ?_, fun hn => h.2 fun s k hs => hn s k (sits_snoc.2 (.inl hs))⟩
    rcases sits_snoc.1 hs with hs | ⟨_, _, hk, hg⟩
    · exact h.1 s k hs
    · exact absurd ⟨k, hk, hg⟩ hx

/-- One more slot, of the other direction. -/
theorem seat_other {P : List (Int × Bool × List Int)} {x : Int × Bool × List Int} {d : Bool} {c : Int} {v : Int × Int} (hd : x.2.1 ≠ d) (h : IsSeat P d c v) : IsSeat (P ++ [x]) d c v := by
  refine ⟨fun s k hs => ?_, fun hn => h.2 fun s k hs => hn s k (sits_snoc.2 (.inl hs))⟩
  rcases sits_snoc.1 hs with hs | ⟨_, hd', _⟩
  · exact h.1 s k hs
  · exact absurd hd' hd

theorem sits_more {P Q : List (Int × Bool × List Int)} {d : Bool} {c : Int} {s k : Nat} (h : Sits P d c s k) : Sits (P ++ Q) d c s k := by
  obtain ⟨z, hz, h⟩ := h
  exact ⟨z, by rw [List.getElem?_append_left (List.getElem?_eq_some_iff.1 hz).1]; exact hz, h⟩

theorem lay_all {c : Int} (c0 : 0 ≤ c) (N : Nat) : ∀ (ss P : List (Int × Bool × List Int)) (A E : List (Int × Int)), A.length = N → E.length = N → (∀ x ∈ ss, ∀ z ∈ x.2.2, 0 ≤ z ∧ z < (N : Int)) →
    (∀ d s k s' k', Sits (P ++ ss) d c s k → Sits (P ++ ss) d c s' k' → s = s' ∧ k = k') → IsSeat P false c (sAt A c) → IsSeat P true c (sAt E c) →
    IsSeat (P ++ ss) false c (sAt (laySlots P.length ss A E).1 c) ∧ IsSeat (P ++ ss) true c (sAt (laySlots P.length ss A E).2 c) ∧ (laySlots P.length ss A E).1.length = N ∧ (laySlots P.length ss A E).2.length = N
  | [], P, A, E, la, le, _, _, h1, h2 => by
    simp only [laySlots, List.append_nil]
    exact ⟨h1, h2, la, le⟩
  | x :: ss, P, A, E, la, le, hr, hu, h1, h2 => by
    have hx := hr x List.mem_cons_self
    have hu1 : ∀ d s k s' k', Sits (P ++ [x]) d c s k → Sits (P ++ [x]) d c s' k' → s = s' ∧ k = k' := fun d s k s' k' a b => hu d s k s' k' (by rw [List.append_cons]; exact sits_more a) (by rw [List.append_cons]; exact sits_more b)
    have el : ((P ++ [x]).length : Int) = P.length + 1 := by simp
    rw [List.append_cons] at hu ⊢
    simp only [laySlots]
    rw [← el]
    split
    · rename_i hd
      exact lay_all c0 N ss (P ++ [x]) A _ la (by rw [lay_len]; exact le) (fun z hz => hr z (List.mem_cons_of_mem _ hz)) hu (seat_other (by rw [hd]; simp) h1) (seat_lay c0 (by rw [le]; exact hx) hd (hu1 true) h2)
    · rename_i hd
      exact lay_all c0 N ss (P ++ [x]) _ E (by rw [lay_len]; exact la) le (fun z hz => hr z (List.mem_cons_of_mem _ hz)) hu (seat_lay c0 (by rw [la]; exact hx) (by simpa using hd) (hu1 false) h1) (seat_other (by simpa using hd) h2)

theorem slots_in {g : Gr} (hc : checkF g = 0) : ∀ x ∈ slotsF g, ∀ z ∈ x.2.2, 0 ≤ z ∧ z < g.h * g.w := by
  intro x hx z hz
  have e : slotsF g = slotsFrom g (g.h * g.w).toNat 0 0 := if_pos hc
  rw [e] at hx
  have := open_in ((slots_open _ _ _ x hx).2 z hz)
  omega

/-- The seats of a right grid. -/
theorem seats_are {g : Gr} (hc : checkF g = 0) {c : Int} (c0 : 0 ≤ c) : IsSeat (slotsF g) false c (sAt (seatsF g).1 c) ∧ IsSeat (slotsF g) true c (sAt (seatsF g).2 c) ∧ ((seatsF g).1.length : Int) = g.h * g.w ∧ ((seatsF g).2.length : Int) = g.h * g.w := by
  have hw := hw_in (chk0.1 hc).1 (chk0.1 hc).2.1
  have e : seatsF g = laySlots 0 (slotsF g) (List.replicate (g.h * g.w).toNat (-1, 0)) (List.replicate (g.h * g.w).toNat (-1, 0)) := if_pos hc
  have hrep : sAt (List.replicate (g.h * g.w).toNat (-1, 0)) c = (-1, 0) := by
    unfold sAt
    rw [List.getD_eq_getElem?_getD, List.getElem?_replicate]
    split <;> rfl
  have none : ∀ d, IsSeat [] d c (sAt (List.replicate (g.h * g.w).toNat (-1, 0)) c) := fun d => ⟨fun s k h => by obtain ⟨x, hx, _⟩ := h; simp at hx, fun _ => hrep⟩
  have h := lay_all c0 (g.h * g.w).toNat (slotsF g) [] _ _ List.length_replicate List.length_replicate (fun x hx z hz => by have := slots_in hc x hx z hz; omega) (fun d s k s' k' a b => sits_unique hc a b) (none false) (none true)
  rw [e]
  simp only [List.nil_append, List.length_nil] at h
  obtain ⟨a, b, p, q⟩ := h
  have p' : (laySlots 0 (slotsF g) (List.replicate (g.h * g.w).toNat (-1, 0)) (List.replicate (g.h * g.w).toNat (-1, 0))).1.length = (g.h * g.w).toNat := p
  have q' : (laySlots 0 (slotsF g) (List.replicate (g.h * g.w).toNat (-1, 0)) (List.replicate (g.h * g.w).toNat (-1, 0))).2.length = (g.h * g.w).toNat := q
  exact ⟨a, b, by omega, by omega⟩

end Go.Proofs.YtnakmganodkliaaDoorAm
