/- What the law of the lists leans on: the logic and the contracts of the functions that it calls (part 9) -/
import Derived.Test.YtnakmganodkliaaDoorVh
set_option linter.unusedVariables false
set_option linter.unusedSimpArgs false
set_option maxRecDepth 100000
namespace Go.Proofs.YtnakmganodkliaaDoorAm
open Go
def dirI (d : Bool) : Int := if d then 1 else 0
theorem dir_in (d : Bool) : dirI d = 0 ∨ dirI d = 1 := by cases d <;> simp [dirI]
structure IsRun (g : Gr) (x : Int × Bool × List Int) : Prop where
  run : ∃ i, 0 ≤ i ∧ x.2.2 = runOn g (dirI x.2.1) i ∧ beginsB g i (dirI x.2.1) = true
theorem slots_runs {g : Gr} : ∀ (m : Nat) (i num : Int), 0 ≤ i → ∀ x ∈ slotsFrom g m i num, IsRun g x ∧ i ≤ x.2.2.getD 0 0
  | 0, _, _, _, x, h => by simp [slotsFrom] at h
  | m + 1, i, num, i0, x, h => by
    simp only [slotsFrom, List.mem_append] at h
    rcases h with h | h | h
    · split at h
      · rename_i hb; rw [List.mem_singleton.1 h]; exact ⟨⟨i, i0, rfl, hb⟩, Int.le_refl _⟩
      · simp at h
    · split at h
      · rename_i hb; rw [List.mem_singleton.1 h]; exact ⟨⟨i, i0, rfl, hb⟩, Int.le_refl _⟩
      · simp at h
    · obtain ⟨a, b⟩ := slots_runs m (i + 1) _ (by omega) x h
      exact ⟨a, by omega⟩
theorem slots_rise {g : Gr} : ∀ (m : Nat) (i num : Int), 0 ≤ i → (slotsFrom g m i num).Pairwise fun a b => a.2.1 = b.2.1 → a.2.2.getD 0 0 < b.2.2.getD 0 0
  | 0, _, _, _ => by simp [slotsFrom]
  | m + 1, i, num, i0 => by
    have ih := slots_rise (g := g) m (i + 1) (if beginsB g i 0 || beginsB g i 1 then num + 1 else num) (by omega)
    have hr := fun x hx => (slots_runs (g := g) m (i + 1) (if beginsB g i 0 || beginsB g i 1 then num + 1 else num) (by omega) x hx).2
    have h1 : ∀ (n : Int) (d : Bool) (y : Int), ∀ b ∈ slotsFrom g m (i + 1) (if beginsB g i 0 || beginsB g i 1 then num + 1 else num), ((n, d, runOn g y i) : Int × Bool × List Int).2.1 = b.2.1 → ((n, d, runOn g y i) : Int × Bool × List Int).2.2.getD 0 0 < b.2.2.getD 0 0 := by
      intro n d y b hb _
      have := hr b hb
      show i < _
      omega
    simp only [slotsFrom]
    refine List.pairwise_append.2 ⟨?_, List.pairwise_append.2 ⟨?_, ih, ?_⟩, ?_⟩
    · split <;> simp
    · split <;> simp
    · intro a ha b hb
      split at ha
      · rw [List.mem_singleton.1 ha]; exact h1 _ _ _ b hb
      · simp at ha
    · intro a ha b hb
      split at ha
      · rw [List.mem_singleton.1 ha]
        rcases List.mem_append.1 hb with hb | hb
        · split at hb
          · rw [List.mem_singleton.1 hb]
            intro h; cases h
          · simp at hb
        · exact h1 _ _ _ b hb
      · simp at ha
theorem run_at {g : Gr} {y : Int} (hy : y = 0 ∨ y = 1) : ∀ (m : Nat) (i : Int) (k : Nat), k + 1 < (i :: onT g y m i).length → stepF g ((i :: onT g y m i).getD k 0) y = ((i :: onT g y m i).getD (k + 1) 0, true)
  | 0, i, k, h => by simp [onT] at h
  | m + 1, i, k, h => by
    rcases Bool.eq_false_or_eq_true (stepF g i y).2 with hs | hs
    · have e : onT g y (m + 1) i = (stepF g i y).1 :: onT g y m (stepF g i y).1 := by
        show (if _ then _ else _) = _
        rw [if_pos hs]
      rw [e] at h ⊢
      cases k with
      | zero => exact Prod.ext rfl hs
      | succ k =>
        simp only [List.length_cons] at h
        exact run_at hy m (stepF g i y).1 k (by simp only [List.length_cons]; omega)
    · have e : onT g y (m + 1) i = [] := by
        show (if _ then _ else _) = _
        rw [hs]
        rfl
      rw [e] at h
      simp at h
theorem step_inv {g : Gr} {i j y : Int} (hy : y = 0 ∨ y = 1) (h : stepF g i y = (j, true)) : stepF g j (y + 2) = (i, true) := by
  have hf := step_facts (g := g) (i := i) (y := y) (by rw [h])
  have h2 := hf.2.2.2.2.2.2
  rw [h] at h2
  obtain ⟨_, _, oj, hb⟩ := step_back hf.1 h2
  rw [stepF, oj]
  rcases hy with rfl | rfl <;> exact hb
theorem run_unique {g : Gr} {y i i' : Int} (hy : y = 0 ∨ y = 1) (hb : (stepF g i (y + 2)).2 = false) (hb' : (stepF g i' (y + 2)).2 = false) : ∀ (k k' : Nat), k < (runOn g y i).length → k' < (runOn g y i').length → (runOn g y i).getD k 0 = (runOn g y i').getD k' 0 → k = k' ∧ i = i'
  | 0, 0, _, _, e => ⟨rfl, e⟩
  | 0, k' + 1, _, h', e => by
    have := step_inv hy (run_at hy 256 i' k' h')
    have e2 : i = (i' :: onT g y 256 i').getD (k' + 1) 0 := e
    rw [← e2] at this
    rw [this] at hb
    cases hb
  | k + 1, 0, h, _, e => by
    have := step_inv hy (run_at hy 256 i k h)
    have e2 : (i :: onT g y 256 i).getD (k + 1) 0 = i' := e
    rw [e2] at this
    rw [this] at hb'
    cases hb'
  | k + 1, k' + 1, h, h', e => by
    have a := step_inv hy (run_at hy 256 i k h)
    have b := step_inv hy (run_at hy 256 i' k' h')
    have e2 : (i :: onT g y 256 i).getD (k + 1) 0 = (i' :: onT g y 256 i').getD (k' + 1) 0 := e
    rw [e2, b] at a
    have e3 : (i' :: onT g y 256 i').getD k' 0 = (i :: onT g y 256 i).getD k 0 := (Prod.mk.inj a).1
    obtain ⟨p, q⟩ := run_unique hy hb hb' k k' (Nat.lt_of_succ_lt h) (Nat.lt_of_succ_lt h') e3.symm
    exact ⟨by omega, q⟩
def Sits (S : List (Int × Bool × List Int)) (d : Bool) (c : Int) (s k : Nat) : Prop := ∃ x, S[s]? = some x ∧ x.2.1 = d ∧ k < x.2.2.length ∧ x.2.2.getD k 0 = c
theorem sits_unique {g : Gr} {d : Bool} {c : Int} {s k s' k' : Nat} (hc : checkF g = 0) (h : Sits (slotsF g) d c s k) (h' : Sits (slotsF g) d c s' k') : s = s' ∧ k = k' := by
  have e : slotsF g = slotsFrom g (g.h * g.w).toNat 0 0 := if_pos hc
  rw [e] at h h'
  obtain ⟨x, hx, hd, hk, hg⟩ := h
  obtain ⟨x', hx', hd', hk', hg'⟩ := h'
  obtain ⟨⟨i, i0, r, b⟩, _⟩ := slots_runs (g := g) _ 0 0 (by omega) x (List.mem_of_getElem? hx)
  obtain ⟨⟨i', i0', r', b'⟩, _⟩ := slots_runs (g := g) _ 0 0 (by omega) x' (List.mem_of_getElem? hx')
  rw [hd] at r b
  rw [hd'] at r' b'
  unfold beginsB at b b'
  rw [Bool.and_eq_true, Bool.not_eq_true'] at b b'
  rw [r] at hk hg
  rw [r'] at hk' hg'
  obtain ⟨p, q⟩ := run_unique (dir_in d) b.1 b'.1 k k' hk hk' (by rw [hg, hg'])
  refine ⟨?_, p⟩
  have hp := slots_rise (g := g) (g.h * g.w).toNat 0 0 (by omega)
  rw [List.pairwise_iff_getElem] at hp
  obtain ⟨l, e1⟩ := List.getElem?_eq_some_iff.1 hx
  obtain ⟨l', e1'⟩ := List.getElem?_eq_some_iff.1 hx'
  have h0 : x.2.2.getD 0 0 = i := by rw [r]; rfl
  have h0' : x'.2.2.getD 0 0 = i' := by rw [r']; rfl
  rcases Nat.lt_trichotomy s s' with hl | hl | hl
  · have := hp s s' l l' hl (by rw [e1, e1', hd, hd'])
    rw [e1, e1', h0, h0'] at this
    omega
  · exact hl
  · have := hp s' s l' l hl (by rw [e1, e1', hd, hd'])
    rw [e1, e1', h0, h0'] at this
    omega
end Go.Proofs.YtnakmganodkliaaDoorAm
set_option maxRecDepth 100000
namespace Go.Proofs.YtnakmganodkliaaDoorAm
open Go
def sAt (A : List (Int × Int)) (c : Int) : Int × Int := A.getD c.toNat (-1, 0)
theorem sAt_set {A : List (Int × Int)} {x y : Int} {v : Int × Int} (x0 : 0 ≤ x) (y0 : 0 ≤ y) (yl : y < A.length) : sAt (A.set y.toNat v) x = if x = y then v else sAt A x := by
  unfold sAt
  rw [List.getD_eq_getElem?_getD, List.getD_eq_getElem?_getD, List.getElem?_set]
  by_cases h : x = y
  · subst h
    rw [if_pos rfl, if_pos rfl, if_pos (by omega)]
    rfl
  · rw [if_neg (by omega), if_neg h]
theorem lay_no (s c : Int) (c0 : 0 ≤ c) : ∀ (cs : List Int) (k : Int) (A : List (Int × Int)), (∀ x ∈ cs, 0 ≤ x ∧ x < (A.length : Int)) → (∀ x ∈ cs, x ≠ c) → sAt (layCells s k cs A) c = sAt A c
  | [], _, _, _, _ => rfl
  | x :: cs, k, A, hr, hn => by
    have h0 := hr x List.mem_cons_self
    have h1 := hn x List.mem_cons_self
    simp only [layCells]
    rw [lay_no s c c0 cs (k + 1) _ (fun z hz => by rw [List.length_set]; exact hr z (List.mem_cons_of_mem _ hz)) (fun z hz => hn z (List.mem_cons_of_mem _ hz)), sAt_set c0 h0.1 h0.2, if_neg (fun e => h1 e.symm)]
theorem lay_yes (s c : Int) (c0 : 0 ≤ c) : ∀ (cs : List Int) (k : Int) (A : List (Int × Int)) (j : Nat), (∀ x ∈ cs, 0 ≤ x ∧ x < (A.length : Int)) → j < cs.length → cs.getD j 0 = c → (∀ j', j < j' → j' < cs.length → cs.getD j' 0 ≠ c) → sAt (layCells s k cs A) c = (s, k + j)
  | [], _, _, _, _, hj, _, _ => by simp at hj
  | x :: cs, k, A, 0, hr, hj, he, hu => by
    have h0 := hr x List.mem_cons_self
    have e : x = c := he
    simp only [layCells]
    rw [lay_no s c c0 cs (k + 1) _ (fun z hz => by rw [List.length_set]; exact hr z (List.mem_cons_of_mem _ hz)) (fun z hz => ?_), sAt_set c0 h0.1 h0.2, if_pos e.symm]
    · simp
    · obtain ⟨n, hn, rfl⟩ := List.mem_iff_getElem.1 hz
      have := hu (n + 1) (by omega) (by simp only [List.length_cons]; omega)
      rw [List.getD_cons_succ, List.getD_eq_getElem?_getD, List.getElem?_eq_getElem hn] at this
      exact this
  | x :: cs, k, A, j + 1, hr, hj, he, hu => by
    simp only [layCells]
    simp only [List.length_cons] at hj
    rw [lay_yes s c c0 cs (k + 1) _ j (fun z hz => by rw [List.length_set]; exact hr z (List.mem_cons_of_mem _ hz)) (by omega) he (fun j' a b => by
      have := hu (j' + 1) (by omega) (by simp only [List.length_cons]; omega)
      exact this)]
    refine Prod.ext rfl ?_
    show k + 1 + (j : Int) = k + ((j + 1 : Nat) : Int)
    omega
def IsSeat (S : List (Int × Bool × List Int)) (d : Bool) (c : Int) (v : Int × Int) : Prop := (∀ s k : Nat, Sits S d c s k → v = ((s : Int), (k : Int))) ∧ ((∀ s k : Nat, ¬ Sits S d c s k) → v = (-1, 0))
theorem isSeat_unique {S : List (Int × Bool × List Int)} {d : Bool} {c : Int} {v v' : Int × Int} (h : IsSeat S d c v) (h' : IsSeat S d c v') : v = v' := by
  by_cases hx : ∃ s k, Sits S d c s k
  · obtain ⟨s, k, hs⟩ := hx
    rw [h.1 s k hs, h'.1 s k hs]
  · rw [h.2 (fun s k hs => hx ⟨s, k, hs⟩), h'.2 (fun s k hs => hx ⟨s, k, hs⟩)]
theorem sits_snoc {P : List (Int × Bool × List Int)} {x : Int × Bool × List Int} {d : Bool} {c : Int} {s k : Nat} : Sits (P ++ [x]) d c s k ↔ Sits P d c s k ∨ (s = P.length ∧ x.2.1 = d ∧ k < x.2.2.length ∧ x.2.2.getD k 0 = c) := by
  unfold Sits
  constructor
  · rintro ⟨z, hz, h⟩
    rcases Nat.lt_trichotomy s P.length with hl | hl | hl
    · rw [List.getElem?_append_left hl] at hz
      exact .inl ⟨z, hz, h⟩
    · subst hl
      rw [List.getElem?_append_right (Nat.le_refl _), Nat.sub_self] at hz
      simp only [List.getElem?_cons_zero, Option.some.injEq] at hz
      subst hz
      exact .inr ⟨rfl, h⟩
    · rw [List.getElem?_eq_none (by simp; omega)] at hz
      cases hz
  · rintro (⟨z, hz, h⟩ | ⟨rfl, h⟩)
    · have hl := (List.getElem?_eq_some_iff.1 hz).1
      exact ⟨z, by rw [List.getElem?_append_left hl]; exact hz, h⟩
    · exact ⟨x, by rw [List.getElem?_append_right (Nat.le_refl _), Nat.sub_self]; rfl, h⟩
theorem seat_lay {P : List (Int × Bool × List Int)} {x : Int × Bool × List Int} {d : Bool} {c : Int} {A : List (Int × Int)} (c0 : 0 ≤ c) (hr : ∀ z ∈ x.2.2, 0 ≤ z ∧ z < (A.length : Int)) (hd : x.2.1 = d)
    (hu : ∀ s k s' k', Sits (P ++ [x]) d c s k → Sits (P ++ [x]) d c s' k' → s = s' ∧ k = k') (h : IsSeat P d c (sAt A c)) : IsSeat (P ++ [x]) d c (sAt (layCells P.length 0 x.2.2 A) c) := by
  by_cases hx : ∃ k, k < x.2.2.length ∧ x.2.2.getD k 0 = c
  · obtain ⟨k, hk, hg⟩ := hx
    have hs : Sits (P ++ [x]) d c P.length k := sits_snoc.2 (.inr ⟨rfl, hd, hk, hg⟩)
    have e := lay_yes P.length c c0 x.2.2 0 A k hr hk hg (fun j' a b hj => by
      have := (hu _ _ _ _ hs (sits_snoc.2 (.inr ⟨rfl, hd, b, hj⟩))).2
      omega)
    refine ⟨fun s' k' h' => ?_, fun hn => absurd hs (hn _ _)⟩
    obtain ⟨a, b⟩ := hu _ _ _ _ hs h'
    rw [e, ← a, ← b]
    simp
  · have e := lay_no P.length c c0 x.2.2 0 A hr (fun z hz hzc => by
      obtain ⟨n, hn, rfl⟩ := List.mem_iff_getElem.1 hz
      exact hx ⟨n, hn, by rw [List.getD_eq_getElem?_getD, List.getElem?_eq_getElem hn]; exact hzc⟩)
    rw [e]
    refine ⟨fun s k hs => ?_, fun hn => h.2 fun s k hs => hn s k (sits_snoc.2 (.inl hs))⟩
    rcases sits_snoc.1 hs with hs | ⟨_, _, hk, hg⟩
    · exact h.1 s k hs
    · exact absurd ⟨k, hk, hg⟩ hx
theorem seat_other {P : List (Int × Bool × List Int)} {x : Int × Bool × List Int} {d : Bool} {c : Int} {v : Int × Int} (hd : x.2.1 ≠ d) (h : IsSeat P d c v) : IsSeat (P ++ [x]) d c v := by
  refine ⟨fun s k hs => ?_, fun hn => h.2 fun s k hs => hn s k (sits_snoc.2 (.inl hs))⟩
  rcases sits_snoc.1 hs with hs | ⟨_, hd', _⟩
  · exact h.1 s k hs
  · exact absurd hd' hd
theorem sits_more {P Q : List (Int × Bool × List Int)} {d : Bool} {c : Int} {s k : Nat} (h : Sits P d c s k) : Sits (P ++ Q) d c s k := by
  obtain ⟨z, hz, h⟩ := h
  exact ⟨z, by rw [List.getElem?_append_left (List.getElem?_eq_some_iff.1 hz).1]; exact hz, h⟩
theorem lay_all {c : Int} (c0 : 0 ≤ c) (N : Nat) : ∀ (ss P : List (Int × Bool × List Int)) (A E : List (Int × Int)), A.length = N → E.length = N → (∀ x ∈ ss, ∀ z ∈ x.2.2, 0 ≤ z ∧ z < (N : Int)) →
    (∀ d s k s' k', Sits (P ++ ss) d c s k → Sits (P ++ ss) d c s' k' → s = s' ∧ k = k') → IsSeat P false c (sAt A c) → IsSeat P true c (sAt E c) →
    IsSeat (P ++ ss) false c (sAt (laySlots P.length ss A E).1 c) ∧ IsSeat (P ++ ss) true c (sAt (laySlots P.length ss A E).2 c) ∧ (laySlots P.length ss A E).1.length = N ∧ (laySlots P.length ss A E).2.length = N
  | [], P, A, E, la, le, _, _, h1, h2 => by
    simp only [laySlots, List.append_nil]
    exact ⟨h1, h2, la, le⟩
  | x :: ss, P, A, E, la, le, hr, hu, h1, h2 => by
    have hx := hr x List.mem_cons_self
    have hu1 : ∀ d s k s' k', Sits (P ++ [x]) d c s k → Sits (P ++ [x]) d c s' k' → s = s' ∧ k = k' := fun d s k s' k' a b => hu d s k s' k' (by rw [List.append_cons]; exact sits_more a) (by rw [List.append_cons]; exact sits_more b)
    have el : ((P ++ [x]).length : Int) = P.length + 1 := by simp
    rw [List.append_cons] at hu ⊢
    simp only [laySlots]
    rw [← el]
    split
    · rename_i hd
      exact lay_all c0 N ss (P ++ [x]) A _ la (by rw [lay_len]; exact le) (fun z hz => hr z (List.mem_cons_of_mem _ hz)) hu (seat_other (by rw [hd]; simp) h1) (seat_lay c0 (by rw [le]; exact hx) hd (hu1 true) h2)
    · rename_i hd
      exact lay_all c0 N ss (P ++ [x]) _ E (by rw [lay_len]; exact la) le (fun z hz => hr z (List.mem_cons_of_mem _ hz)) hu (seat_lay c0 (by rw [la]; exact hx) (by simpa using hd) (hu1 false) h1) (seat_other (by simpa using hd) h2)
theorem slots_in {g : Gr} (hc : checkF g = 0) : ∀ x ∈ slotsF g, ∀ z ∈ x.2.2, 0 ≤ z ∧ z < g.h * g.w := by
  intro x hx z hz
  have e : slotsF g = slotsFrom g (g.h * g.w).toNat 0 0 := if_pos hc
  rw [e] at hx
  have := open_in ((slots_open _ _ _ x hx).2 z hz)
  omega
theorem seats_are {g : Gr} (hc : checkF g = 0) {c : Int} (c0 : 0 ≤ c) : IsSeat (slotsF g) false c (sAt (seatsF g).1 c) ∧ IsSeat (slotsF g) true c (sAt (seatsF g).2 c) ∧ ((seatsF g).1.length : Int) = g.h * g.w ∧ ((seatsF g).2.length : Int) = g.h * g.w := by
  have hw := hw_in (chk0.1 hc).1 (chk0.1 hc).2.1
  have e : seatsF g = laySlots 0 (slotsF g) (List.replicate (g.h * g.w).toNat (-1, 0)) (List.replicate (g.h * g.w).toNat (-1, 0)) := if_pos hc
  have hrep : sAt (List.replicate (g.h * g.w).toNat (-1, 0)) c = (-1, 0) := by
    unfold sAt
    rw [List.getD_eq_getElem?_getD, List.getElem?_replicate]
    split <;> rfl
  have none : ∀ d, IsSeat [] d c (sAt (List.replicate (g.h * g.w).toNat (-1, 0)) c) := fun d => ⟨fun s k h => by obtain ⟨x, hx, _⟩ := h; simp at hx, fun _ => hrep⟩
  have h := lay_all c0 (g.h * g.w).toNat (slotsF g) [] _ _ List.length_replicate List.length_replicate (fun x hx z hz => by have := slots_in hc x hx z hz; omega) (fun d s k s' k' a b => sits_unique hc a b) (none false) (none true)
  rw [e]
  simp only [List.nil_append, List.length_nil] at h
  obtain ⟨a, b, p, q⟩ := h
  have p' : (laySlots 0 (slotsF g) (List.replicate (g.h * g.w).toNat (-1, 0)) (List.replicate (g.h * g.w).toNat (-1, 0))).1.length = (g.h * g.w).toNat := p
  have q' : (laySlots 0 (slotsF g) (List.replicate (g.h * g.w).toNat (-1, 0)) (List.replicate (g.h * g.w).toNat (-1, 0))).2.length = (g.h * g.w).toNat := q
  exact ⟨a, b, by omega, by omega⟩
end Go.Proofs.YtnakmganodkliaaDoorAm
set_option maxRecDepth 100000
namespace Go.Proofs.YtnakmganodkliaaDoorAm
open Go
def vq9 (S : List (Int × Bool × List Int)) (s : Int) (cells : List Int) (k : Int) (A : List (Int × Int)) (E : List (Int × Int)) (G : Nat → St → Prop) (R : D × List (Option Row) × List Row → Prop) : Prop := let yy0 := (Ty.int IntKind.i64); (decide (k < (↑cells.length : Int)) = true → (0 : Int) ≤ k ∧ k < (↑cells.length : Int) ∧ (0 : Int) ≤ (0 : Int) ∧ (0 : Int) < (↑2 : Int) ∧ (0 : Int) ≤ cells.getD k.toNat yy0.dflt ∧ cells.getD k.toNat yy0.dflt < (↑A.length : Int) ∧ 0 + Int.toNat (cells.getD k.toNat yy0.dflt) < A.length ∧ SameK (KK q77 2) (KK q77 2) ∧ G 2 (stOf 63 [4, 5, 7, 32, 33, 34, 42, 43, 44] [D.ptr 0 0 0, D.v (Value.int IntKind.i64 s), D.v (Value.int IntKind.i64 (0 : Int)), D.own 1 0 S.length none, D.v (Value.int IntKind.i64 (↑S.length : Int)), D.v (Value.int IntKind.i64 s), D.sl false false yy0 cells, D.v (Value.int IntKind.i64 (↑cells.length : Int)), D.v (Value.int IntKind.i64 (IntKind.i64.wrap (k + (1 : Int))))] [Slot.live (Row.box 111 [D.own 2 0 A.length none, D.own 3 0 E.length none]), Slot.live (Row.data 50 (yy0.prod (Ty.bool.prod yy0.sl)) S), Slot.live (Row.data 61 (yy0.prod yy0) (A.set (0 + Int.toNat (cells.getD k.toNat yy0.dflt)) (s, k))), Slot.live (Row.data 61 (yy0.prod yy0) E)])) ∧ (decide (k < (↑cells.length : Int)) = false → SameK (KK q77 1) (KK q77 1) ∧ G 1 (stOf 63 [4, 32, 33, 34] [D.ptr 0 0 0, D.own 1 0 S.length none, D.v (Value.int IntKind.i64 (↑S.length : Int)), D.v (Value.int IntKind.i64 (IntKind.i64.wrap (s + (1 : Int))))] [Slot.live (Row.box 111 [D.own 2 0 A.length none, D.own 3 0 E.length none]), Slot.live (Row.data 50 (yy0.prod (Ty.bool.prod yy0.sl)) S), Slot.live (Row.data 61 (yy0.prod yy0) A), Slot.live (Row.data 61 (yy0.prod yy0) E)]))
theorem e77_20 (S : List (Int × Bool × List Int)) (s : Int) (cells : List Int) (r : D × List (Option Row) × List Row) (hs : 0 ≤ s ∧ s ≤ 600) (hl : cells.length ≤ 300) (m : Nat) :
    ∀ (k : Int) (A E : List (Int × Int)), 0 ≤ k → k + m = cells.length → (∀ c ∈ cells, 0 ≤ c ∧ c < (A.length : Int)) →
    GetsK Tryd.prog Tryd.f40.results.toList [none, none] (KK q77) 0 r 1 (stOf 63 [4,32,33,34] [.ptr 0 0 0, .own 1 0 S.length none, .v (.int .i64 S.length), .v (.int .i64 (s + 1))] [.live (.box 111 [.own 2 0 (layCells s k (cells.drop k.toNat) A).length none, .own 3 0 E.length none]), .live (.data 50 SlT S), .live (.data 61 SeT (layCells s k (cells.drop k.toNat) A)), .live (.data 61 SeT E)]) → GetsK Tryd.prog Tryd.f40.results.toList [none, none] (KK q77) 0 r 2 (stOf 63 [4,5,7,32,33,34,42,43,44] [.ptr 0 0 0, .v (.int .i64 s), .v (.int .i64 0), .own 1 0 S.length none, .v (.int .i64 S.length), .v (.int .i64 s), .sl false false (.int .i64) cells, .v (.int .i64 cells.length), .v (.int .i64 k)] [.live (.box 111 [.own 2 0 A.length none, .own 3 0 E.length none]), .live (.data 50 SlT S), .live (.data 61 SeT A), .live (.data 61 SeT E)]) := by
  induction m with
  | zero =>
    intro k A E k0 km hc cont
    rw [List.drop_eq_nil_of_le (by omega)] at cont
    simp only [layCells] at cont
    refine gets_vc spSe (fun k => [[1,4,15,16],[4,32,33,34],[4,5,7,32,33,34,42,43,44]].getD k []) (fun k => if k = 99 then [⟨2, 61, SeT⟩, ⟨3, 61, SeT⟩] else []) 400 (.fork (.hd 2) (.hd 1)) (V := vq9 S s cells k A E) hmG (fun G R => by kernel_rfl) ?_
    unfold vq9
    try dsimp only
    simp (disch := omega) only [wrG, sameK_iff, true_and, and_true, decide_eq_true_eq, decide_eq_false_iff_not, ne_eq, not_false_eq_true, Bool.false_eq_true, Bool.true_eq_false, false_implies, true_implies, Ty.dflt, reduceCtorEq, beq_iff_eq, bne_iff_ne, beq_eq_false_iff_ne, bne_eq_false_iff_eq, Bool.not_eq_true, Bool.not_eq_eq_eq_not, Bool.not_true, Bool.not_false, gt_iff_lt, ge_iff_le, Int.not_lt, Int.not_le]
    repeat' (first | with_reducible refine And.intro ?_ ?_ | intro _)
    all_goals first | rfl | omega | assumption | trivial | exact room104 (by omega) | (exfalso; simp_all; done) | skip
  | succ m ih =>
    intro k A E k0 km hc cont
    have hd := drop_at (xs := cells) (i := k) (0 : Int) k0 (by omega)
    have hm : cells.getD k.toNat 0 ∈ cells := List.mem_of_mem_drop (i := k.toNat) (by rw [hd]; exact List.mem_cons_self)
    have hcc := hc _ hm
    rw [hd] at cont
    simp only [layCells] at cont
    have hx := ih (k + 1) (A.set (cells.getD k.toNat 0).toNat (s, k)) E (by omega) (by omega) (by rw [List.length_set]; exact hc) cont
    rw [List.length_set] at hx
    refine gets_vc spSe (fun k => [[1,4,15,16],[4,32,33,34],[4,5,7,32,33,34,42,43,44]].getD k []) (fun k => if k = 99 then [⟨2, 61, SeT⟩, ⟨3, 61, SeT⟩] else []) 400 (.fork (.hd 2) (.hd 1)) (V := vq9 S s cells k A E) hmG (fun G R => by kernel_rfl) ?_
    unfold vq9
    try dsimp only
    simp only [Ty.dflt, Nat.zero_add]
    simp (disch := omega) only [wrG, sameK_iff, true_and, and_true, decide_eq_true_eq, decide_eq_false_iff_not, ne_eq, not_false_eq_true, Bool.false_eq_true, Bool.true_eq_false, false_implies, true_implies, Ty.dflt, reduceCtorEq, beq_iff_eq, bne_iff_ne, beq_eq_false_iff_ne, bne_eq_false_iff_eq, Bool.not_eq_true, Bool.not_eq_eq_eq_not, Bool.not_true, Bool.not_false, gt_iff_lt, ge_iff_le, Int.not_lt, Int.not_le]
    repeat' (first | with_reducible refine And.intro ?_ ?_ | intro _)
    all_goals first | rfl | omega | assumption | trivial | exact room104 (by omega) | (exfalso; simp_all; done) | skip
def vq10 (S : List (Int × Bool × List Int)) (s : Int) (cells : List Int) (k : Int) (A : List (Int × Int)) (E : List (Int × Int)) (G : Nat → St → Prop) (R : D × List (Option Row) × List Row → Prop) : Prop := let yy0 := (Ty.int IntKind.i64); (decide (k < (↑cells.length : Int)) = true → (0 : Int) ≤ k ∧ k < (↑cells.length : Int) ∧ (0 : Int) ≤ (1 : Int) ∧ (1 : Int) < (↑2 : Int) ∧ (0 : Int) ≤ cells.getD k.toNat yy0.dflt ∧ cells.getD k.toNat yy0.dflt < (↑E.length : Int) ∧ 0 + Int.toNat (cells.getD k.toNat yy0.dflt) < E.length ∧ SameK (KK q77 2) (KK q77 2) ∧ G 2 (stOf 63 [4, 5, 7, 32, 33, 34, 42, 43, 44] [D.ptr 0 0 0, D.v (Value.int IntKind.i64 s), D.v (Value.int IntKind.i64 (1 : Int)), D.own 1 0 S.length none, D.v (Value.int IntKind.i64 (↑S.length : Int)), D.v (Value.int IntKind.i64 s), D.sl false false yy0 cells, D.v (Value.int IntKind.i64 (↑cells.length : Int)), D.v (Value.int IntKind.i64 (IntKind.i64.wrap (k + (1 : Int))))] [Slot.live (Row.box 111 [D.own 2 0 A.length none, D.own 3 0 E.length none]), Slot.live (Row.data 50 (yy0.prod (Ty.bool.prod yy0.sl)) S), Slot.live (Row.data 61 (yy0.prod yy0) A), Slot.live (Row.data 61 (yy0.prod yy0) (E.set (0 + Int.toNat (cells.getD k.toNat yy0.dflt)) (s, k)))])) ∧ (decide (k < (↑cells.length : Int)) = false → SameK (KK q77 1) (KK q77 1) ∧ G 1 (stOf 63 [4, 32, 33, 34] [D.ptr 0 0 0, D.own 1 0 S.length none, D.v (Value.int IntKind.i64 (↑S.length : Int)), D.v (Value.int IntKind.i64 (IntKind.i64.wrap (s + (1 : Int))))] [Slot.live (Row.box 111 [D.own 2 0 A.length none, D.own 3 0 E.length none]), Slot.live (Row.data 50 (yy0.prod (Ty.bool.prod yy0.sl)) S), Slot.live (Row.data 61 (yy0.prod yy0) A), Slot.live (Row.data 61 (yy0.prod yy0) E)]))
theorem e77_21 (S : List (Int × Bool × List Int)) (s : Int) (cells : List Int) (r : D × List (Option Row) × List Row) (hs : 0 ≤ s ∧ s ≤ 600) (hl : cells.length ≤ 300) (m : Nat) :
    ∀ (k : Int) (A E : List (Int × Int)), 0 ≤ k → k + m = cells.length → (∀ c ∈ cells, 0 ≤ c ∧ c < (E.length : Int)) →
    GetsK Tryd.prog Tryd.f40.results.toList [none, none] (KK q77) 0 r 1 (stOf 63 [4,32,33,34] [.ptr 0 0 0, .own 1 0 S.length none, .v (.int .i64 S.length), .v (.int .i64 (s + 1))] [.live (.box 111 [.own 2 0 A.length none, .own 3 0 (layCells s k (cells.drop k.toNat) E).length none]), .live (.data 50 SlT S), .live (.data 61 SeT A), .live (.data 61 SeT (layCells s k (cells.drop k.toNat) E))]) → GetsK Tryd.prog Tryd.f40.results.toList [none, none] (KK q77) 0 r 2 (stOf 63 [4,5,7,32,33,34,42,43,44] [.ptr 0 0 0, .v (.int .i64 s), .v (.int .i64 1), .own 1 0 S.length none, .v (.int .i64 S.length), .v (.int .i64 s), .sl false false (.int .i64) cells, .v (.int .i64 cells.length), .v (.int .i64 k)] [.live (.box 111 [.own 2 0 A.length none, .own 3 0 E.length none]), .live (.data 50 SlT S), .live (.data 61 SeT A), .live (.data 61 SeT E)]) := by
  induction m with
  | zero =>
    intro k A E k0 km hc cont
    rw [List.drop_eq_nil_of_le (by omega)] at cont
    simp only [layCells] at cont
    refine gets_vc spSe (fun k => [[1,4,15,16],[4,32,33,34],[4,5,7,32,33,34,42,43,44]].getD k []) (fun k => if k = 99 then [⟨2, 61, SeT⟩, ⟨3, 61, SeT⟩] else []) 400 (.fork (.hd 2) (.hd 1)) (V := vq10 S s cells k A E) hmG (fun G R => by kernel_rfl) ?_
    unfold vq10
    try dsimp only
    simp (disch := omega) only [wrG, sameK_iff, true_and, and_true, decide_eq_true_eq, decide_eq_false_iff_not, ne_eq, not_false_eq_true, Bool.false_eq_true, Bool.true_eq_false, false_implies, true_implies, Ty.dflt, reduceCtorEq, beq_iff_eq, bne_iff_ne, beq_eq_false_iff_ne, bne_eq_false_iff_eq, Bool.not_eq_true, Bool.not_eq_eq_eq_not, Bool.not_true, Bool.not_false, gt_iff_lt, ge_iff_le, Int.not_lt, Int.not_le]
    repeat' (first | with_reducible refine And.intro ?_ ?_ | intro _)
    all_goals first | rfl | omega | assumption | trivial | exact room104 (by omega) | (exfalso; simp_all; done) | skip
  | succ m ih =>
    intro k A E k0 km hc cont
    have hd := drop_at (xs := cells) (i := k) (0 : Int) k0 (by omega)
    have hm : cells.getD k.toNat 0 ∈ cells := List.mem_of_mem_drop (i := k.toNat) (by rw [hd]; exact List.mem_cons_self)
    have hcc := hc _ hm
    rw [hd] at cont
    simp only [layCells] at cont
    have hx := ih (k + 1) A (E.set (cells.getD k.toNat 0).toNat (s, k)) (by omega) (by omega) (by rw [List.length_set]; exact hc) cont
    rw [List.length_set] at hx
    refine gets_vc spSe (fun k => [[1,4,15,16],[4,32,33,34],[4,5,7,32,33,34,42,43,44]].getD k []) (fun k => if k = 99 then [⟨2, 61, SeT⟩, ⟨3, 61, SeT⟩] else []) 400 (.fork (.hd 2) (.hd 1)) (V := vq10 S s cells k A E) hmG (fun G R => by kernel_rfl) ?_
    unfold vq10
    try dsimp only
    simp only [Ty.dflt, Nat.zero_add]
    simp (disch := omega) only [wrG, sameK_iff, true_and, and_true, decide_eq_true_eq, decide_eq_false_iff_not, ne_eq, not_false_eq_true, Bool.false_eq_true, Bool.true_eq_false, false_implies, true_implies, Ty.dflt, reduceCtorEq, beq_iff_eq, bne_iff_ne, beq_eq_false_iff_ne, bne_eq_false_iff_eq, Bool.not_eq_true, Bool.not_eq_eq_eq_not, Bool.not_true, Bool.not_false, gt_iff_lt, ge_iff_le, Int.not_lt, Int.not_le]
    repeat' (first | with_reducible refine And.intro ?_ ?_ | intro _)
    all_goals first | rfl | omega | assumption | trivial | exact room104 (by omega) | (exfalso; simp_all; done) | skip
def vq11 (S : List (Int × Bool × List Int)) (s : Int) (A : List (Int × Int)) (E : List (Int × Int)) (G : Nat → St → Prop) (R : D × List (Option Row) × List Row → Prop) : Prop := let yy0 := (Ty.int IntKind.i64); let yy1 := (S.getD (0 + s.toNat) (yy0.prod (Ty.bool.prod yy0.sl)).dflt); (decide (s < (↑S.length : Int)) = true → (0 : Int) ≤ s ∧ s < (↑S.length : Int) ∧ 0 + s.toNat < S.length ∧ (yy1.snd.fst = true → SameK (KK q77 2) (KK q77 2) ∧ G 2 (stOf 63 [4, 5, 7, 32, 33, 34, 42, 43, 44] [D.ptr 0 0 0, D.v (Value.int IntKind.i64 s), D.v (Value.int IntKind.i64 (1 : Int)), D.own 1 0 S.length none, D.v (Value.int IntKind.i64 (↑S.length : Int)), D.v (Value.int IntKind.i64 s), D.sl false false yy0 yy1.snd.snd, D.v (Value.int IntKind.i64 (↑(List.length yy1.snd.snd) : Int)), D.v (Value.int IntKind.i64 (0 : Int))] [Slot.live (Row.box 111 [D.own 2 0 A.length none, D.own 3 0 E.length none]), Slot.live (Row.data 50 (yy0.prod (Ty.bool.prod yy0.sl)) S), Slot.live (Row.data 61 (yy0.prod yy0) A), Slot.live (Row.data 61 (yy0.prod yy0) E)])) ∧ (yy1.snd.fst = false → SameK (KK q77 2) (KK q77 2) ∧ G 2 (stOf 63 [4, 5, 7, 32, 33, 34, 42, 43, 44] [D.ptr 0 0 0, D.v (Value.int IntKind.i64 s), D.v (Value.int IntKind.i64 (0 : Int)), D.own 1 0 S.length none, D.v (Value.int IntKind.i64 (↑S.length : Int)), D.v (Value.int IntKind.i64 s), D.sl false false yy0 yy1.snd.snd, D.v (Value.int IntKind.i64 (↑(List.length yy1.snd.snd) : Int)), D.v (Value.int IntKind.i64 (0 : Int))] [Slot.live (Row.box 111 [D.own 2 0 A.length none, D.own 3 0 E.length none]), Slot.live (Row.data 50 (yy0.prod (Ty.bool.prod yy0.sl)) S), Slot.live (Row.data 61 (yy0.prod yy0) A), Slot.live (Row.data 61 (yy0.prod yy0) E)]))) ∧ (decide (s < (↑S.length : Int)) = false → (0 : Int) ≤ (0 : Int) ∧ (0 : Int) < (↑2 : Int) ∧ (0 : Int) ≤ (1 : Int) ∧ (1 : Int) < (↑2 : Int) ∧ R (D.tup [D.own 0 0 A.length none, D.own 1 0 E.length none], [], [Row.data 61 (yy0.prod yy0) A, Row.data 61 (yy0.prod yy0) E]))
theorem e77_1 (S : List (Int × Bool × List Int)) (N : Nat) (r : D × List (Option Row) × List Row) (hS : S.length ≤ 600) (hc : ∀ x ∈ S, x.2.2.length ≤ 257 ∧ ∀ c ∈ x.2.2, 0 ≤ c ∧ c < (N : Int)) (m : Nat) : ∀ (s : Int) (A E : List (Int × Int)), 0 ≤ s → s + m = S.length → A.length = N → E.length = N →
    r = (.tup [.own 0 0 (laySlots s (S.drop s.toNat) A E).1.length none, .own 1 0 (laySlots s (S.drop s.toNat) A E).2.length none], [], [.data 61 SeT (laySlots s (S.drop s.toNat) A E).1, .data 61 SeT (laySlots s (S.drop s.toNat) A E).2]) → GetsK Tryd.prog Tryd.f40.results.toList [none, none] (KK q77) 0 r 1 (stOf 63 [4,32,33,34] [.ptr 0 0 0, .own 1 0 S.length none, .v (.int .i64 S.length), .v (.int .i64 s)] [.live (.box 111 [.own 2 0 A.length none, .own 3 0 E.length none]), .live (.data 50 SlT S), .live (.data 61 SeT A), .live (.data 61 SeT E)]) := by
  induction m with
  | zero =>
    intro s A E s0 sm la le hr
    rw [List.drop_eq_nil_of_le (by omega)] at hr
    simp only [laySlots] at hr
    subst hr
    refine gets_vc spSe (fun k => [[1,4,15,16],[4,32,33,34],[4,5,7,32,33,34,42,43,44]].getD k []) (fun k => if k = 99 then [⟨2, 61, SeT⟩, ⟨3, 61, SeT⟩] else []) 400 (.fork (.fork (.hd 2) (.hd 2)) .stop) (V := vq11 S s A E) hmG (fun G R => by kernel_rfl) ?_
    unfold vq11
    try dsimp only
    simp (disch := omega) only [wrG, sameK_iff, true_and, and_true, decide_eq_true_eq, decide_eq_false_iff_not, ne_eq, not_false_eq_true, Bool.false_eq_true, Bool.true_eq_false, false_implies, true_implies, Ty.dflt, reduceCtorEq, beq_iff_eq, bne_iff_ne, beq_eq_false_iff_ne, bne_eq_false_iff_eq, Bool.not_eq_true, Bool.not_eq_eq_eq_not, Bool.not_true, Bool.not_false, gt_iff_lt, ge_iff_le, Int.not_lt, Int.not_le]
    repeat' (first | with_reducible refine And.intro ?_ ?_ | intro _)
    all_goals first | rfl | omega | assumption | trivial | exact room104 (by omega) | (exfalso; simp_all; done) | skip
  | succ m ih =>
    intro s A E s0 sm la le hr
    have hd := drop_at (xs := S) (i := s) (Ty.dflt (.prod (.int .i64) (.prod .bool (.sl (.int .i64))))) s0 (by omega)
    have hm : S.getD s.toNat (Ty.dflt (.prod (.int .i64) (.prod .bool (.sl (.int .i64))))) ∈ S := List.mem_of_mem_drop (i := s.toNat) (by rw [hd]; exact List.mem_cons_self)
    have hx := hc _ hm
    rw [hd] at hr
    refine gets_vc spSe (fun k => [[1,4,15,16],[4,32,33,34],[4,5,7,32,33,34,42,43,44]].getD k []) (fun k => if k = 99 then [⟨2, 61, SeT⟩, ⟨3, 61, SeT⟩] else []) 400 (.fork (.fork (.hd 2) (.hd 2)) .stop) (V := vq11 S s A E) hmG (fun G R => by kernel_rfl) ?_
    unfold vq11
    try dsimp only
    simp only [Nat.zero_add]
    generalize S.getD s.toNat (Ty.dflt (.prod (.int .i64) (.prod .bool (.sl (.int .i64))))) = z at *
    obtain ⟨num, down, cells⟩ := z
    simp only at hx
    simp only [laySlots] at hr
    cases down
    · simp only [Bool.false_eq_true, if_false] at hr
      have hy := ih (s + 1) (layCells s 0 cells A) E (by omega) (by omega) (by rw [lay_len]; exact la) le hr
      have hz := e77_20 S s cells r ⟨s0, by omega⟩ (by omega) cells.length 0 A E (by omega) (by omega) (by rw [la]; exact hx.2) (by simpa using hy)
      simp (disch := omega) only [wrG, sameK_iff, true_and, and_true, decide_eq_true_eq, decide_eq_false_iff_not, ne_eq, not_false_eq_true, Bool.false_eq_true, Bool.true_eq_false, false_implies, true_implies, Ty.dflt, reduceCtorEq, beq_iff_eq, bne_iff_ne, beq_eq_false_iff_ne, bne_eq_false_iff_eq, Bool.not_eq_true, Bool.not_eq_eq_eq_not, Bool.not_true, Bool.not_false, gt_iff_lt, ge_iff_le, Int.not_lt, Int.not_le]
      repeat' (first | with_reducible refine And.intro ?_ ?_ | intro _)
      all_goals first | rfl | omega | assumption | trivial | exact room104 (by omega) | (exfalso; simp_all; done) | skip
    · simp only [if_true] at hr
      have hy := ih (s + 1) A (layCells s 0 cells E) (by omega) (by omega) la (by rw [lay_len]; exact le) hr
      have hz := e77_21 S s cells r ⟨s0, by omega⟩ (by omega) cells.length 0 A E (by omega) (by omega) (by rw [le]; exact hx.2) (by simpa using hy)
      simp (disch := omega) only [wrG, sameK_iff, true_and, and_true, decide_eq_true_eq, decide_eq_false_iff_not, ne_eq, not_false_eq_true, Bool.false_eq_true, Bool.true_eq_false, false_implies, true_implies, Ty.dflt, reduceCtorEq, beq_iff_eq, bne_iff_ne, beq_eq_false_iff_ne, bne_eq_false_iff_eq, Bool.not_eq_true, Bool.not_eq_eq_eq_not, Bool.not_true, Bool.not_false, gt_iff_lt, ge_iff_le, Int.not_lt, Int.not_le]
      repeat' (first | with_reducible refine And.intro ?_ ?_ | intro _)
      all_goals first | rfl | omega | assumption | trivial | exact room104 (by omega) | (exfalso; simp_all; done) | skip
theorem e77_n (g : Gr) (n : Nat) (r : D × List (Option Row) × List Row) (hn : 0 < n ∧ n ≤ 256) (fin : GetsK Tryd.prog Tryd.f40.results.toList [none, none] (KK q77) 0 r 0 (stOf 63 [1,4,15,16] [.ptr 0 0 0, .ptr 1 0 0, .v (.int .i64 n), .v (.int .i64 1)] [.live (.box 46 [.v (.int .i64 g.h), .v (.int .i64 g.w), .sl false false .bool g.B, .sl false false .bool g.R, .sl false false .bool g.L]), .live (.box 111 [.own 2 0 (List.replicate (1 : Int).toNat ((-1 : Int), (0 : Int))).length none, .own 3 0 (List.replicate (1 : Int).toNat ((-1 : Int), (0 : Int))).length none]), .live (.data 61 SeT (List.replicate (1 : Int).toNat ((-1 : Int), (0 : Int)))), .live (.data 61 SeT (List.replicate (1 : Int).toNat ((-1 : Int), (0 : Int))))])) : GetsK Tryd.prog Tryd.f40.results.toList [none, none] (KK q77) 0 r 0 (stOf 63 [1,4,15,16] [.ptr 0 0 0, .ptr 1 0 0, .v (.int .i64 n), .v (.int .i64 0)] [.live (.box 46 [.v (.int .i64 g.h), .v (.int .i64 g.w), .sl false false .bool g.B, .sl false false .bool g.R, .sl false false .bool g.L]), .live (.box 111 [.v (.slice none 0 0), .v (.slice none 0 0)])]) := by
  refine gets_vc spSe (fun k => [[1,4,15,16],[4,32,33,34],[4,5,7,32,33,34,42,43,44]].getD k []) (fun k => if k = 99 then [⟨2, 61, SeT⟩, ⟨3, 61, SeT⟩] else []) 400 (.fork (.hd 0) (.hd 1)) (V := fun G R => let yy0 := (Ty.int IntKind.i64); let yy1 := (Row.data 61 (yy0.prod yy0) (List.take 1 (List.drop 0 [((-1 : Int), (0 : Int))]))); (decide ((0 : Int) < (↑n : Int)) = true → (0 : Int) ≤ (0 : Int) ∧ (0 : Int) < (↑2 : Int) ∧ roomy Tryd.prog 61 1 ∧ (0 : Int) ≤ (0 : Int) ∧ (0 : Int) < (↑2 : Int) ∧ (0 : Int) ≤ (1 : Int) ∧ (1 : Int) < (↑2 : Int) ∧ roomy Tryd.prog 61 1 ∧ (0 : Int) ≤ (1 : Int) ∧ (1 : Int) < (↑2 : Int) ∧ SameK (KK q77 0) (KK q77 0) ∧ G 0 (stOf 63 [1, 4, 15, 16] [D.ptr 0 0 0, D.ptr 1 0 0, D.v (Value.int IntKind.i64 (↑n : Int)), D.v (Value.int IntKind.i64 (IntKind.i64.wrap ((0 : Int) + (1 : Int))))] [Slot.live (Row.box 46 [D.v (Value.int IntKind.i64 g.h), D.v (Value.int IntKind.i64 g.w), D.sl false false Ty.bool g.B, D.sl false false Ty.bool g.R, D.sl false false Ty.bool g.L]), Slot.live (Row.box 111 [D.own 2 0 1 none, D.own 3 0 1 none]), Slot.live yy1, Slot.live yy1])) ∧ (decide ((0 : Int) < (↑n : Int)) = false → Con Tryd.prog 36 [] [D.agg [D.v (Value.int IntKind.i64 g.h), D.v (Value.int IntKind.i64 g.w), D.sl false false Ty.bool g.B, D.sl false false Ty.bool g.R, D.sl false false Ty.bool g.L]] (D.own 0 0 (slotsF g).length none) [] [Row.data 50 (yy0.prod (Ty.bool.prod yy0.sl)) (slotsF g)] ∧ Value.int IntKind.i64 g.h = Value.int IntKind.i64 g.h ∧ Value.int IntKind.i64 g.w = Value.int IntKind.i64 g.w ∧ g.B = g.B ∧ g.R = g.R ∧ g.L = g.L ∧ SameK (KK q77 1) (KK q77 1) ∧ G 1 (stOf 63 [4, 32, 33, 34] [D.ptr 0 0 0, D.own 1 0 (slotsF g).length none, D.v (Value.int IntKind.i64 (↑(slotsF g).length : Int)), D.v (Value.int IntKind.i64 (0 : Int))] [Slot.live (Row.box 111 [D.v (Value.slice none 0 0), D.v (Value.slice none 0 0)]), Slot.live (Row.data 50 (yy0.prod (Ty.bool.prod yy0.sl)) (slotsF g))]))) hmG (fun G R => by kernel_rfl) ?_
  try dsimp only
  have fin : GetsK Tryd.prog Tryd.f40.results.toList [none, none] (KK q77) 0 r 0 (stOf 63 [1,4,15,16] [.ptr 0 0 0, .ptr 1 0 0, .v (.int .i64 n), .v (.int .i64 1)] [.live (.box 46 [.v (.int .i64 g.h), .v (.int .i64 g.w), .sl false false .bool g.B, .sl false false .bool g.R, .sl false false .bool g.L]), .live (.box 111 [.own 2 0 [((-1 : Int), (0 : Int))].length none, .own 3 0 [((-1 : Int), (0 : Int))].length none]), .live (.data 61 SeT [((-1 : Int), (0 : Int))]), .live (.data 61 SeT [((-1 : Int), (0 : Int))])]) := fin
  simp (disch := omega) only [wrG, sameK_iff, true_and, and_true, decide_eq_true_eq, decide_eq_false_iff_not, ne_eq, not_false_eq_true, Bool.false_eq_true, Bool.true_eq_false, false_implies, true_implies, Ty.dflt, reduceCtorEq, beq_iff_eq, bne_iff_ne, beq_eq_false_iff_ne, bne_eq_false_iff_eq, Bool.not_eq_true, Bool.not_eq_eq_eq_not, Bool.not_true, Bool.not_false, gt_iff_lt, ge_iff_le, Int.not_lt, Int.not_le]
  repeat' (first | with_reducible refine And.intro ?_ ?_ | intro _)
  all_goals first | rfl | omega | assumption | trivial | exact room104 (by omega) | (exfalso; simp_all; done) | skip
theorem e77_0 (g : Gr) (n : Nat) (r : D × List (Option Row) × List Row) (hn : n ≤ 256) (fin : Con Tryd.prog 36 [] [g.d] (.own 0 0 (slotsF g).length none) [] [.data 50 SlT (slotsF g)] ∧ GetsK Tryd.prog Tryd.f40.results.toList [none, none] (KK q77) 0 r 1 (stOf 63 [4,32,33,34] [.ptr 0 0 0, .own 1 0 (slotsF g).length none, .v (.int .i64 (slotsF g).length), .v (.int .i64 0)] [.live (.box 111 [.own 2 0 (List.replicate n ((-1 : Int), (0 : Int))).length none, .own 3 0 (List.replicate n ((-1 : Int), (0 : Int))).length none]), .live (.data 50 SlT (slotsF g)), .live (.data 61 SeT (List.replicate n ((-1 : Int), (0 : Int)))), .live (.data 61 SeT (List.replicate n ((-1 : Int), (0 : Int))))])) (m : Nat) : ∀ (i : Int), 0 < i → i + m = n → GetsK Tryd.prog Tryd.f40.results.toList [none, none] (KK q77) 0 r 0 (stOf 63 [1,4,15,16] [.ptr 0 0 0, .ptr 1 0 0, .v (.int .i64 n), .v (.int .i64 i)] [.live (.box 46 [.v (.int .i64 g.h), .v (.int .i64 g.w), .sl false false .bool g.B, .sl false false .bool g.R, .sl false false .bool g.L]), .live (.box 111 [.own 2 0 (List.replicate i.toNat ((-1 : Int), (0 : Int))).length none, .own 3 0 (List.replicate i.toNat ((-1 : Int), (0 : Int))).length none]), .live (.data 61 SeT (List.replicate i.toNat ((-1 : Int), (0 : Int)))), .live (.data 61 SeT (List.replicate i.toNat ((-1 : Int), (0 : Int))))]) := by
  induction m with
  | zero =>
    intro i i0 im
    have e : i.toNat = n := by omega
    generalize hA : List.replicate i.toNat ((-1 : Int), (0 : Int)) = A
    refine gets_vc spSe (fun k => [[1,4,15,16],[4,32,33,34],[4,5,7,32,33,34,42,43,44]].getD k []) (fun k => if k = 99 then [⟨2, 61, SeT⟩, ⟨3, 61, SeT⟩] else []) 400 (.fork (.hd 0) (.hd 1)) (V := fun G R => let yy0 := (Ty.int IntKind.i64); let yy1 := (Row.data 61 (yy0.prod yy0) (List.take A.length (List.drop 0 A) ++ List.take 1 (List.drop 0 [((-1 : Int), (0 : Int))]))); (decide (i < (↑n : Int)) = true → (0 : Int) ≤ (0 : Int) ∧ (0 : Int) < (↑2 : Int) ∧ roomy Tryd.prog 61 (A.length + 1) ∧ (0 : Int) ≤ (0 : Int) ∧ (0 : Int) < (↑2 : Int) ∧ (0 : Int) ≤ (1 : Int) ∧ (1 : Int) < (↑2 : Int) ∧ roomy Tryd.prog 61 (A.length + 1) ∧ (0 : Int) ≤ (1 : Int) ∧ (1 : Int) < (↑2 : Int) ∧ SameK (KK q77 0) (KK q77 0) ∧ G 0 (stOf 63 [1, 4, 15, 16] [D.ptr 0 0 0, D.ptr 1 0 0, D.v (Value.int IntKind.i64 (↑n : Int)), D.v (Value.int IntKind.i64 (IntKind.i64.wrap (i + (1 : Int))))] [Slot.live (Row.box 46 [D.v (Value.int IntKind.i64 g.h), D.v (Value.int IntKind.i64 g.w), D.sl false false Ty.bool g.B, D.sl false false Ty.bool g.R, D.sl false false Ty.bool g.L]), Slot.live (Row.box 111 [D.own 2 0 (A.length + 1) none, D.own 3 0 (A.length + 1) none]), Slot.live yy1, Slot.live yy1])) ∧ (decide (i < (↑n : Int)) = false → Con Tryd.prog 36 [] [D.agg [D.v (Value.int IntKind.i64 g.h), D.v (Value.int IntKind.i64 g.w), D.sl false false Ty.bool g.B, D.sl false false Ty.bool g.R, D.sl false false Ty.bool g.L]] (D.own 0 0 (slotsF g).length none) [] [Row.data 50 (yy0.prod (Ty.bool.prod yy0.sl)) (slotsF g)] ∧ Value.int IntKind.i64 g.h = Value.int IntKind.i64 g.h ∧ Value.int IntKind.i64 g.w = Value.int IntKind.i64 g.w ∧ g.B = g.B ∧ g.R = g.R ∧ g.L = g.L ∧ SameK (KK q77 1) (KK q77 1) ∧ G 1 (stOf 63 [4, 32, 33, 34] [D.ptr 0 0 0, D.own 1 0 (slotsF g).length none, D.v (Value.int IntKind.i64 (↑(slotsF g).length : Int)), D.v (Value.int IntKind.i64 (0 : Int))] [Slot.live (Row.box 111 [D.own 2 0 A.length none, D.own 3 0 A.length none]), Slot.live (Row.data 50 (yy0.prod (Ty.bool.prod yy0.sl)) (slotsF g)), Slot.live (Row.data 61 (yy0.prod yy0) A), Slot.live (Row.data 61 (yy0.prod yy0) A)]))) hmG (fun G R => by kernel_rfl) ?_
    try dsimp only
    subst hA
    rw [e]
    obtain ⟨fin1, fin2⟩ := fin
    simp (disch := omega) only [take_len, wrG, sameK_iff, true_and, and_true, decide_eq_true_eq, decide_eq_false_iff_not, ne_eq, not_false_eq_true, Bool.false_eq_true, Bool.true_eq_false, false_implies, true_implies, Ty.dflt, reduceCtorEq, beq_iff_eq, bne_iff_ne, beq_eq_false_iff_ne, bne_eq_false_iff_eq, Bool.not_eq_true, Bool.not_eq_eq_eq_not, Bool.not_true, Bool.not_false, gt_iff_lt, ge_iff_le, Int.not_lt, Int.not_le]
    repeat' (first | with_reducible refine And.intro ?_ ?_ | intro _)
    all_goals first | rfl | omega | assumption | trivial | exact room104 (by omega) | (exfalso; simp_all; done) | skip
  | succ m ih =>
    intro i i0 im
    generalize hA : List.replicate i.toNat ((-1 : Int), (0 : Int)) = A
    refine gets_vc spSe (fun k => [[1,4,15,16],[4,32,33,34],[4,5,7,32,33,34,42,43,44]].getD k []) (fun k => if k = 99 then [⟨2, 61, SeT⟩, ⟨3, 61, SeT⟩] else []) 400 (.fork (.hd 0) (.hd 1)) (V := fun G R => let yy0 := (Ty.int IntKind.i64); let yy1 := (Row.data 61 (yy0.prod yy0) (List.take A.length (List.drop 0 A) ++ List.take 1 (List.drop 0 [((-1 : Int), (0 : Int))]))); (decide (i < (↑n : Int)) = true → (0 : Int) ≤ (0 : Int) ∧ (0 : Int) < (↑2 : Int) ∧ roomy Tryd.prog 61 (A.length + 1) ∧ (0 : Int) ≤ (0 : Int) ∧ (0 : Int) < (↑2 : Int) ∧ (0 : Int) ≤ (1 : Int) ∧ (1 : Int) < (↑2 : Int) ∧ roomy Tryd.prog 61 (A.length + 1) ∧ (0 : Int) ≤ (1 : Int) ∧ (1 : Int) < (↑2 : Int) ∧ SameK (KK q77 0) (KK q77 0) ∧ G 0 (stOf 63 [1, 4, 15, 16] [D.ptr 0 0 0, D.ptr 1 0 0, D.v (Value.int IntKind.i64 (↑n : Int)), D.v (Value.int IntKind.i64 (IntKind.i64.wrap (i + (1 : Int))))] [Slot.live (Row.box 46 [D.v (Value.int IntKind.i64 g.h), D.v (Value.int IntKind.i64 g.w), D.sl false false Ty.bool g.B, D.sl false false Ty.bool g.R, D.sl false false Ty.bool g.L]), Slot.live (Row.box 111 [D.own 2 0 (A.length + 1) none, D.own 3 0 (A.length + 1) none]), Slot.live yy1, Slot.live yy1])) ∧ (decide (i < (↑n : Int)) = false → Con Tryd.prog 36 [] [D.agg [D.v (Value.int IntKind.i64 g.h), D.v (Value.int IntKind.i64 g.w), D.sl false false Ty.bool g.B, D.sl false false Ty.bool g.R, D.sl false false Ty.bool g.L]] (D.own 0 0 (slotsF g).length none) [] [Row.data 50 (yy0.prod (Ty.bool.prod yy0.sl)) (slotsF g)] ∧ Value.int IntKind.i64 g.h = Value.int IntKind.i64 g.h ∧ Value.int IntKind.i64 g.w = Value.int IntKind.i64 g.w ∧ g.B = g.B ∧ g.R = g.R ∧ g.L = g.L ∧ SameK (KK q77 1) (KK q77 1) ∧ G 1 (stOf 63 [4, 32, 33, 34] [D.ptr 0 0 0, D.own 1 0 (slotsF g).length none, D.v (Value.int IntKind.i64 (↑(slotsF g).length : Int)), D.v (Value.int IntKind.i64 (0 : Int))] [Slot.live (Row.box 111 [D.own 2 0 A.length none, D.own 3 0 A.length none]), Slot.live (Row.data 50 (yy0.prod (Ty.bool.prod yy0.sl)) (slotsF g)), Slot.live (Row.data 61 (yy0.prod yy0) A), Slot.live (Row.data 61 (yy0.prod yy0) A)]))) hmG (fun G R => by kernel_rfl) ?_
    try dsimp only
    subst hA
    have hx := ih (i + 1) (by omega) (by omega)
    simp only [show (i + 1).toNat = i.toNat + 1 by omega, List.replicate_succ', List.length_append, List.length_cons, List.length_nil, Nat.zero_add] at hx
    have hl : (List.replicate i.toNat ((-1 : Int), (0 : Int))).length ≤ 256 := by simp; omega
    simp (disch := omega) only [take_len, wrG, sameK_iff, true_and, and_true, decide_eq_true_eq, decide_eq_false_iff_not, ne_eq, not_false_eq_true, Bool.false_eq_true, Bool.true_eq_false, false_implies, true_implies, Ty.dflt, reduceCtorEq, beq_iff_eq, bne_iff_ne, beq_eq_false_iff_ne, bne_eq_false_iff_eq, Bool.not_eq_true, Bool.not_eq_eq_eq_not, Bool.not_true, Bool.not_false, gt_iff_lt, ge_iff_le, Int.not_lt, Int.not_le]
    repeat' (first | with_reducible refine And.intro ?_ ?_ | intro _)
    all_goals first | rfl | omega | assumption | trivial | exact room104 (by omega) | (exfalso; simp_all; done) | skip
theorem d77 (g : Gr)  : Con Tryd.prog 40 [] [g.d] ((.tup [.own 0 0 (seatsF g).1.length none, .own 1 0 (seatsF g).2.length none])) [] [.data 61 SeT (seatsF g).1, .data 61 SeT (seatsF g).2] := by
  refine con_vc (how := [none, none]) (c := q77) (K := (KK q77)) spSe (fun k => [[1,4,15,16],[4,32,33,34],[4,5,7,32,33,34,42,43,44]].getD k []) (fun k => if k = 99 then [⟨2, 61, SeT⟩, ⟨3, 61, SeT⟩] else []) 400 (.fork .stop (.hd 0)) (V := fun G R => Con Tryd.prog 44 [] [D.agg [D.v (Value.int IntKind.i64 g.h), D.v (Value.int IntKind.i64 g.w), D.sl false false Ty.bool g.B, D.sl false false Ty.bool g.R, D.sl false false Ty.bool g.L]] (D.v (Value.int IntKind.i64 (checkF g))) [] [] ∧ Value.int IntKind.i64 g.h = Value.int IntKind.i64 g.h ∧ Value.int IntKind.i64 g.w = Value.int IntKind.i64 g.w ∧ g.B = g.B ∧ g.R = g.R ∧ g.L = g.L ∧ ((checkF g != (0 : Int)) = true → R (D.tup [D.own 0 0 0 none, D.own 1 0 0 none], [], [Row.data 61 ((Ty.int IntKind.i64).prod (Ty.int IntKind.i64)) [], Row.data 61 ((Ty.int IntKind.i64).prod (Ty.int IntKind.i64)) []])) ∧ ((checkF g != (0 : Int)) = false → SameK (KK q77 0) (KK q77 0) ∧ G 0 (stOf 63 [1, 4, 15, 16] [D.ptr 0 0 0, D.ptr 1 0 0, D.v (Value.int IntKind.i64 (↑g.B.length : Int)), D.v (Value.int IntKind.i64 (0 : Int))] [Slot.live (Row.box 46 [D.v (Value.int IntKind.i64 g.h), D.v (Value.int IntKind.i64 g.w), D.sl false false Ty.bool g.B, D.sl false false Ty.bool g.R, D.sl false false Ty.bool g.L]), Slot.live (Row.box 111 [D.v (Value.slice none 0 0), D.v (Value.slice none 0 0)])]))) hmG Tryd.func40 (by kernel_rfl) (by kernel_rfl) (fun G R => by kernel_rfl) ?_
  try dsimp only
  have c := d43 g
  by_cases hc : checkF g = 0
  · have hw := hw_in (chk0.1 hc).1 (chk0.1 hc).2.1
    have sz := size3 (chk0.1 hc).2.2.1
    have e : seatsF g = laySlots 0 (slotsF g) (List.replicate (g.h * g.w).toNat (-1, 0)) (List.replicate (g.h * g.w).toNat (-1, 0)) := if_pos hc
    have es : slotsF g = slotsFrom g (g.h * g.w).toNat 0 0 := if_pos hc
    have hS : (slotsF g).length ≤ 600 := by
      have := sl_len g (g.h * g.w).toNat 0 0
      rw [es]; omega
    have hop : ∀ x ∈ slotsF g, x.2.2.length ≤ 257 ∧ ∀ c ∈ x.2.2, 0 ≤ c ∧ c < ((g.h * g.w).toNat : Int) := by
      intro x hx
      rw [es] at hx
      obtain ⟨h1, h2⟩ := slots_open _ _ _ x hx
      refine ⟨h1, fun c hc => ?_⟩
      have := open_in (h2 c hc)
      omega
    have f1 := e77_1 (slotsF g) (g.h * g.w).toNat _ hS hop (slotsF g).length 0 _ _ (by omega) (by omega) (List.length_replicate (n := (g.h * g.w).toNat) (a := ((-1 : Int), (0 : Int)))) (List.length_replicate (n := (g.h * g.w).toNat) (a := ((-1 : Int), (0 : Int)))) rfl
    simp only [show (0 : Int).toNat = 0 by rfl, List.drop_zero] at f1
    rw [← e] at f1
    have hn : g.B.length = (g.h * g.w).toNat := by omega
    have f0 := e77_0 g (g.h * g.w).toNat _ (by omega) ⟨d65 g, f1⟩ ((g.h * g.w).toNat - 1) 1 (by omega) (by omega)
    have f2 := e77_n g (g.h * g.w).toNat _ (by omega) f0
    rw [hc] at c
    rw [hc, hn]
    simp (disch := omega) only [wrG, sameK_iff, true_and, and_true, decide_eq_true_eq, decide_eq_false_iff_not, ne_eq, not_false_eq_true, Bool.false_eq_true, Bool.true_eq_false, false_implies, true_implies, Ty.dflt, reduceCtorEq, beq_iff_eq, bne_iff_ne, beq_eq_false_iff_ne, bne_eq_false_iff_eq, Bool.not_eq_true, Bool.not_eq_eq_eq_not, Bool.not_true, Bool.not_false, gt_iff_lt, ge_iff_le, Int.not_lt, Int.not_le]
    repeat' (first | with_reducible refine And.intro ?_ ?_ | intro _)
    all_goals first | rfl | assumption | trivial | omega | (exfalso; simp_all; done) | skip
  · have e : seatsF g = ([], []) := if_neg hc
    rw [e]
    simp (disch := omega) only [wrG, sameK_iff, true_and, and_true, decide_eq_true_eq, decide_eq_false_iff_not, ne_eq, not_false_eq_true, Bool.false_eq_true, Bool.true_eq_false, false_implies, true_implies, Ty.dflt, reduceCtorEq, beq_iff_eq, bne_iff_ne, beq_eq_false_iff_ne, bne_eq_false_iff_eq, Bool.not_eq_true, Bool.not_eq_eq_eq_not, Bool.not_true, Bool.not_false, gt_iff_lt, ge_iff_le, Int.not_lt, Int.not_le]
    repeat' (first | with_reducible refine And.intro ?_ ?_ | intro _)
    all_goals first | rfl | assumption | trivial | omega | (exfalso; simp_all; done) | skip
end Go.Proofs.YtnakmganodkliaaDoorAm
set_option maxRecDepth 100000
namespace Go.Proofs.YtnakmganodkliaaDoorAm
open Go
def spN : Sp := fun f args rd => match f, args with
  | 160, [.v (.int _ 12)] => some { f := 160, args := [.v (.int .i64 12)], val := .v (.string ⟨#[49, 50]⟩) }
  | 153, [.v (.int _ 12), .v (.int _ 10)] => some { f := 153, args := [.v (.int .i64 12), .v (.int .i64 10)], val := .v (.string ⟨#[49, 50]⟩) }
  | 141, [.v (.int _ 12)] => some { f := 141, args := [.v (.int .i64 12)], val := .v (.string ⟨#[49, 50]⟩) }
  | 112, [.v (.int _ 12)] => some { f := 112, args := [.v (.int .i64 12)], val := .v (.string ⟨#[49, 50]⟩) }
  | 76, [.v (.int _ 12), .v (.bool true)] => some { f := 76, args := [.v (.int .i64 12), .v (.bool true)], val := .v (.string ⟨#[49, 50, 68]⟩) }
  | 36, [.agg [.v (.int _ h), .v (.int _ w), b, r, l]] => withW rd h w b r l fun g ls => some { f := 36, args := [g.d], val := .own 0 0 (slotsF g).length none, allocs := [.data 50 SlT (slotsF g)], frz := ls }
  | 35, [] => some { f := 35, args := [], val := .v (.bool true) }
  | f, args => spSe f args rd
noncomputable def q160 : Code := (Tryd.f160.body).getD .skip
noncomputable def q153 : Code := (Tryd.f153.body).getD .skip
noncomputable def q141 : Code := (Tryd.f141.body).getD .skip
noncomputable def q112 : Code := (Tryd.f112.body).getD .skip
noncomputable def q76 : Code := (Tryd.f76.body).getD .skip
noncomputable def q35 : Code := (Tryd.f35.body).getD .skip
end Go.Proofs.YtnakmganodkliaaDoorAm
set_option maxRecDepth 100000
namespace Go.Proofs.YtnakmganodkliaaDoorAm
open Go
theorem d160   : Con Tryd.prog 160 [] [.v (.int .i64 12)] ((.v (.string ⟨#[49, 50]⟩))) [] [] := by
  refine con_vc (how := [none]) (c := q160) (K := (KK q160)) spN (fun _ => []) (fun _ => []) 400 (.f .stop) (V := fun G R => decide ((12 : Int) < (10 : Int)) = false ∧ (0 : Int) ≤ IntKind.i64.wrap ((12 : Int) * (2 : Int)) ∧ IntKind.i64.wrap ((12 : Int) * (2 : Int)) ≤ IntKind.i64.wrap (IntKind.i64.wrap ((12 : Int) * (2 : Int)) + (2 : Int)) ∧ IntKind.i64.wrap (IntKind.i64.wrap ((12 : Int) * (2 : Int)) + (2 : Int)) ≤ (↑200 : Int) ∧ R (D.v (Value.string ((ByteArray.mk (([(48 : UInt8), (48 : UInt8), (48 : UInt8), (49 : UInt8), (48 : UInt8), (50 : UInt8), (48 : UInt8), (51 : UInt8), (48 : UInt8), (52 : UInt8), (48 : UInt8), (53 : UInt8), (48 : UInt8), (54 : UInt8), (48 : UInt8), (55 : UInt8), (48 : UInt8), (56 : UInt8), (48 : UInt8), (57 : UInt8), (49 : UInt8), (48 : UInt8), (49 : UInt8), (49 : UInt8), (49 : UInt8), (50 : UInt8), (49 : UInt8), (51 : UInt8), (49 : UInt8), (52 : UInt8), (49 : UInt8), (53 : UInt8), (49 : UInt8), (54 : UInt8), (49 : UInt8), (55 : UInt8), (49 : UInt8), (56 : UInt8), (49 : UInt8), (57 : UInt8), (50 : UInt8), (48 : UInt8), (50 : UInt8), (49 : UInt8), (50 : UInt8), (50 : UInt8), (50 : UInt8), (51 : UInt8), (50 : UInt8), (52 : UInt8)].append [(50 : UInt8), (53 : UInt8), (50 : UInt8), (54 : UInt8), (50 : UInt8), (55 : UInt8), (50 : UInt8), (56 : UInt8), (50 : UInt8), (57 : UInt8), (51 : UInt8), (48 : UInt8), (51 : UInt8), (49 : UInt8), (51 : UInt8), (50 : UInt8), (51 : UInt8), (51 : UInt8), (51 : UInt8), (52 : UInt8), (51 : UInt8), (53 : UInt8), (51 : UInt8), (54 : UInt8), (51 : UInt8), (55 : UInt8), (51 : UInt8), (56 : UInt8), (51 : UInt8), (57 : UInt8), (52 : UInt8), (48 : UInt8), (52 : UInt8), (49 : UInt8), (52 : UInt8), (50 : UInt8), (52 : UInt8), (51 : UInt8), (52 : UInt8), (52 : UInt8), (52 : UInt8), (53 : UInt8), (52 : UInt8), (54 : UInt8), (52 : UInt8), (55 : UInt8), (52 : UInt8), (56 : UInt8), (52 : UInt8), (57 : UInt8)]).append ([(53 : UInt8), (48 : UInt8), (53 : UInt8), (49 : UInt8), (53 : UInt8), (50 : UInt8), (53 : UInt8), (51 : UInt8), (53 : UInt8), (52 : UInt8), (53 : UInt8), (53 : UInt8), (53 : UInt8), (54 : UInt8), (53 : UInt8), (55 : UInt8), (53 : UInt8), (56 : UInt8), (53 : UInt8), (57 : UInt8), (54 : UInt8), (48 : UInt8), (54 : UInt8), (49 : UInt8), (54 : UInt8), (50 : UInt8), (54 : UInt8), (51 : UInt8), (54 : UInt8), (52 : UInt8), (54 : UInt8), (53 : UInt8), (54 : UInt8), (54 : UInt8), (54 : UInt8), (55 : UInt8), (54 : UInt8), (56 : UInt8), (54 : UInt8), (57 : UInt8), (55 : UInt8), (48 : UInt8), (55 : UInt8), (49 : UInt8), (55 : UInt8), (50 : UInt8), (55 : UInt8), (51 : UInt8), (55 : UInt8), (52 : UInt8)].append [(55 : UInt8), (53 : UInt8), (55 : UInt8), (54 : UInt8), (55 : UInt8), (55 : UInt8), (55 : UInt8), (56 : UInt8), (55 : UInt8), (57 : UInt8), (56 : UInt8), (48 : UInt8), (56 : UInt8), (49 : UInt8), (56 : UInt8), (50 : UInt8), (56 : UInt8), (51 : UInt8), (56 : UInt8), (52 : UInt8), (56 : UInt8), (53 : UInt8), (56 : UInt8), (54 : UInt8), (56 : UInt8), (55 : UInt8), (56 : UInt8), (56 : UInt8), (56 : UInt8), (57 : UInt8), (57 : UInt8), (48 : UInt8), (57 : UInt8), (49 : UInt8), (57 : UInt8), (50 : UInt8), (57 : UInt8), (51 : UInt8), (57 : UInt8), (52 : UInt8), (57 : UInt8), (53 : UInt8), (57 : UInt8), (54 : UInt8), (57 : UInt8), (55 : UInt8), (57 : UInt8), (56 : UInt8), (57 : UInt8), (57 : UInt8)])).toArray).extract 24 26)), [], [])) hmG Tryd.func160 (by kernel_rfl) (by kernel_rfl) (fun G R => by kernel_rfl) ?_
  try dsimp only
  repeat' (first | with_reducible refine And.intro ?_ ?_ | intro _)
  all_goals first | rfl | decide | assumption | trivial | (exfalso; simp_all; done) | (simp; done) | skip
theorem d153   : Con Tryd.prog 153 [] [.v (.int .i64 12), .v (.int .i64 10)] ((.v (.string ⟨#[49, 50]⟩))) [] [] := by
  refine con_vc (how := [none]) (c := q153) (K := (KK q153)) spN (fun _ => []) (fun _ => []) 400 (.t (.t (.t .stop))) (V := fun G R => ((10 : Int) == (10 : Int)) = true ∧ decide ((0 : Int) ≤ (12 : Int)) = true ∧ decide ((12 : Int) < (100 : Int)) = true ∧ Con Tryd.prog 160 [] [D.v (Value.int IntKind.i64 (12 : Int))] (D.v (Value.string (ByteArray.mk #[(49 : UInt8), (50 : UInt8)]))) [] [] ∧ Value.int IntKind.i64 (12 : Int) = Value.int IntKind.i64 (12 : Int) ∧ R (D.v (Value.string (ByteArray.mk #[(49 : UInt8), (50 : UInt8)])), [], [])) hmG Tryd.func153 (by kernel_rfl) (by kernel_rfl) (fun G R => by kernel_rfl) ?_
  try dsimp only
  have c := d160
  repeat' (first | with_reducible refine And.intro ?_ ?_ | intro _)
  all_goals first | rfl | decide | assumption | trivial | (exfalso; simp_all; done) | (simp; done) | skip
theorem d141   : Con Tryd.prog 141 [] [.v (.int .i64 12)] ((.v (.string ⟨#[49, 50]⟩))) [] [] := by
  refine con_vc (how := [none]) (c := q141) (K := (KK q141)) spN (fun _ => []) (fun _ => []) 400 .stop (V := fun G R => Con Tryd.prog 153 [] [D.v (Value.int IntKind.i64 (12 : Int)), D.v (Value.int IntKind.i64 (10 : Int))] (D.v (Value.string (ByteArray.mk #[(49 : UInt8), (50 : UInt8)]))) [] [] ∧ Value.int IntKind.i64 (12 : Int) = Value.int IntKind.i64 (12 : Int) ∧ Value.int IntKind.i64 (10 : Int) = Value.int IntKind.i64 (10 : Int) ∧ R (D.v (Value.string (ByteArray.mk #[(49 : UInt8), (50 : UInt8)])), [], [])) hmG Tryd.func141 (by kernel_rfl) (by kernel_rfl) (fun G R => by kernel_rfl) ?_
  try dsimp only
  have c := d153
  repeat' (first | with_reducible refine And.intro ?_ ?_ | intro _)
  all_goals first | rfl | decide | assumption | trivial | (exfalso; simp_all; done) | (simp; done) | skip
theorem d112   : Con Tryd.prog 112 [] [.v (.int .i64 12)] ((.v (.string ⟨#[49, 50]⟩))) [] [] := by
  refine con_vc (how := [none]) (c := q112) (K := (KK q112)) spN (fun _ => []) (fun _ => []) 400 .stop (V := fun G R => Con Tryd.prog 141 [] [D.v (Value.int IntKind.i64 (12 : Int))] (D.v (Value.string (ByteArray.mk #[(49 : UInt8), (50 : UInt8)]))) [] [] ∧ Value.int IntKind.i64 (12 : Int) = Value.int IntKind.i64 (12 : Int) ∧ R (D.v (Value.string (ByteArray.mk #[(49 : UInt8), (50 : UInt8)])), [], [])) hmG Tryd.func112 (by kernel_rfl) (by kernel_rfl) (fun G R => by kernel_rfl) ?_
  try dsimp only
  have c := d141
  repeat' (first | with_reducible refine And.intro ?_ ?_ | intro _)
  all_goals first | rfl | decide | assumption | trivial | (exfalso; simp_all; done) | (simp; done) | skip
theorem d76   : Con Tryd.prog 76 [] [.v (.int .i64 12), .v (.bool true)] ((.v (.string ⟨#[49, 50, 68]⟩))) [] [] := by
  refine con_vc (how := [none]) (c := q76) (K := (KK q76)) spN (fun _ => []) (fun _ => []) 400 (.f (.f (.t .stop))) (V := fun G R => decide ((12 : Int) < (1 : Int)) = false ∧ decide ((12 : Int) > (999 : Int)) = false ∧ true = true ∧ Con Tryd.prog 112 [] [D.v (Value.int IntKind.i64 (12 : Int))] (D.v (Value.string (ByteArray.mk #[(49 : UInt8), (50 : UInt8)]))) [] [] ∧ Value.int IntKind.i64 (12 : Int) = Value.int IntKind.i64 (12 : Int) ∧ ¬(↑3 : Int) > IntKind.i64.max ∧ R (D.v (Value.string (ByteArray.mk #[(49 : UInt8), (50 : UInt8)] ++ ByteArray.mk #[(68 : UInt8)])), [], [])) hmG Tryd.func76 (by kernel_rfl) (by kernel_rfl) (fun G R => by kernel_rfl) ?_
  try dsimp only
  have c := d112
  repeat' (first | with_reducible refine And.intro ?_ ?_ | intro _)
  all_goals first | rfl | decide | assumption | trivial | (exfalso; simp_all; done) | (simp; done) | skip
theorem d35   : Con Tryd.prog 35 [] [] ((.v (.bool true))) [] [] := by
  refine con_vc (how := [none]) (c := q35) (K := (KK q35)) spN (fun _ => []) (fun _ => []) 400 (.fork (.fork (.fork (.fork (.fork .stop .stop) (.f .stop)) (.f (.f .stop))) (.f (.f (.f .stop)))) (.f (.f (.f (.f .stop))))) (V := fun G R => let yy0 := (Gr.mk (2 : Int) (3 : Int) (List.replicate 6 false) (List.replicate 6 false) (List.replicate 6 false)); let yy1 := ((slotsF yy0).getD 4 SlT.dflt); let yy2 := (ByteArray.mk #[(49 : UInt8), (50 : UInt8), (68 : UInt8)]); let yy3 := (List.drop 0 (List.replicate 6 false)); (0 : Int) ≤ (6 : Int) ∧ (6 : Int) ≤ (6 : Int) ∧ (6 : Int) ≤ (9223372036854775807 : Int) ∧ 6 ≤ 281474976710656 ∧ (0 : Int) ≤ (6 : Int) ∧ (6 : Int) ≤ (6 : Int) ∧ (6 : Int) ≤ (9223372036854775807 : Int) ∧ 6 ≤ 281474976710656 ∧ (0 : Int) ≤ (6 : Int) ∧ (6 : Int) ≤ (6 : Int) ∧ (6 : Int) ≤ (9223372036854775807 : Int) ∧ 6 ≤ 281474976710656 ∧ Con Tryd.prog 36 [] [D.agg [D.v (Value.int IntKind.i64 yy0.h), D.v (Value.int IntKind.i64 yy0.w), D.sl false false Ty.bool yy0.B, D.sl false false Ty.bool yy0.R, D.sl false false Ty.bool yy0.L]] (D.own 0 0 5 none) [] [Row.data 50 ((Ty.int IntKind.i64).prod (Ty.bool.prod (Ty.int IntKind.i64).sl)) (slotsF yy0)] ∧ Value.int IntKind.i64 (2 : Int) = Value.int IntKind.i64 yy0.h ∧ Value.int IntKind.i64 (3 : Int) = Value.int IntKind.i64 yy0.w ∧ List.take 6 yy3 = yy0.B ∧ List.take 6 yy3 = yy0.R ∧ List.take 6 yy3 = yy0.L ∧ (((↑5 : Int) == (5 : Int)) = true → (0 : Int) ≤ (4 : Int) ∧ (4 : Int) < (↑5 : Int) ∧ 4 < 5 ∧ ((yy1.fst == (4 : Int)) = true → (0 : Int) ≤ (4 : Int) ∧ (4 : Int) < (↑5 : Int) ∧ 4 < 5 ∧ ((!yy1.snd.fst) = true → (0 : Int) ≤ (4 : Int) ∧ (4 : Int) < (↑5 : Int) ∧ 4 < 5 ∧ (((↑3 : Int) == (3 : Int)) = true → (0 : Int) ≤ (4 : Int) ∧ (4 : Int) < (↑5 : Int) ∧ 4 < 5 ∧ (0 : Int) ≤ (0 : Int) ∧ (0 : Int) < (↑3 : Int) ∧ ((List.getD yy1.snd.snd 0 (Ty.int IntKind.i64).dflt == (3 : Int)) = true → Con Tryd.prog 76 [] [D.v (Value.int IntKind.i64 (12 : Int)), D.v (Value.bool true)] (D.v (Value.string yy2)) [] [] ∧ Value.int IntKind.i64 (12 : Int) = Value.int IntKind.i64 (12 : Int) ∧ Value.bool true = Value.bool true ∧ R (D.v (Value.bool (yy2.toList == yy2.toList)), [], [])) ∧ ((List.getD yy1.snd.snd 0 (Ty.int IntKind.i64).dflt == (3 : Int)) = false → R (D.v (Value.bool false), [], []))) ∧ (((↑3 : Int) == (3 : Int)) = false → false = false ∧ R (D.v (Value.bool false), [], []))) ∧ ((!yy1.snd.fst) = false → false = false ∧ false = false ∧ R (D.v (Value.bool false), [], []))) ∧ ((yy1.fst == (4 : Int)) = false → false = false ∧ false = false ∧ false = false ∧ R (D.v (Value.bool false), [], []))) ∧ (((↑5 : Int) == (5 : Int)) = false → false = false ∧ false = false ∧ false = false ∧ false = false ∧ R (D.v (Value.bool false), [], []))) hmG Tryd.func35 (by kernel_rfl) (by kernel_rfl) (fun G R => by kernel_rfl) ?_
  try dsimp only
  try dsimp only
  have e : slotsF ⟨2, 3, List.replicate 6 false, List.replicate 6 false, List.replicate 6 false⟩ = [(1, false, [0, 1, 2]), (1, true, [0, 3]), (2, true, [1, 4]), (3, true, [2, 5]), (4, false, [3, 4, 5])] := by kernel_rfl
  have c1 := d65 ⟨2, 3, List.replicate 6 false, List.replicate 6 false, List.replicate 6 false⟩
  have c2 := d76
  rw [e] at c1
  simp only [Ty.dflt, show (6 : Int).toNat = 6 by rfl, e]
  repeat' (first | with_reducible refine And.intro ?_ ?_ | intro _)
  all_goals first | rfl | decide | assumption | trivial | (exfalso; simp_all; done) | (simp; done) | skip
end Go.Proofs.YtnakmganodkliaaDoorAm
set_option maxRecDepth 100000
namespace Go.Proofs.YtnakmganodkliaaDoorAm
open Go
theorem slots_small (g : Gr) : (slotsF g).length ≤ 512 := by
  unfold slotsF
  split
  · rename_i hc
    have hw := hw_in (chk0.1 hc).1 (chk0.1 hc).2.1
    have := sl_len g (g.h * g.w).toNat 0 0
    omega
  · simp
end Go.Proofs.YtnakmganodkliaaDoorAm
set_option maxRecDepth 100000
namespace Go.Proofs.YtnakmganodkliaaDoorAm
open Go
def findC (c : Int) : Int → List Int → Option Int
  | _, [] => none
  | k, x :: xs => if x = c then some k else findC c (k + 1) xs
def seatOf (d : Bool) (c : Int) : Int → List (Int × Bool × List Int) → Int × Int
  | _, [] => (-1, 0)
  | s, x :: ss => match (if x.2.1 = d then findC c 0 x.2.2 else none) with
    | some k => (s, k)
    | none => seatOf d c (s + 1) ss
def spH : Sp := fun f args rd => match f, args with
  | 82, [l, .v (.int _ i), .v (.bool d)] => match slC rd SlT [l] with
    | some S => some { f := 82, args := [.sl false false SlT S, .v (.int .i64 i), .v (.bool d)], val := .agg [.v (.int .i64 (seatOf d i 0 S).1), .v (.int .i64 (seatOf d i 0 S).2)], lent := refsDs [l] }
    | none => none
  | 41, [.agg [.v (.int _ h), .v (.int _ w), b, r, l]] => withW rd h w b r l fun g ls => some { f := 41, args := [g.d], val := .tup [.own 0 0 (seatsF g).1.length none, .own 1 0 (seatsF g).2.length none], allocs := [.data 61 SeT (seatsF g).1, .data 61 SeT (seatsF g).2], lent := ls }
  | f, args => spN f args rd
noncomputable def q82 : Code := (Tryd.f82.body).getD .skip
noncomputable def q41 : Code := (Tryd.f41.body).getD .skip
theorem find_none {c : Int} : ∀ {xs : List Int} {k : Int}, findC c k xs = none → ∀ x ∈ xs, x ≠ c
  | [], _, _, x, hx => by simp at hx
  | y :: xs, k, h, x, hx => by
    simp only [findC] at h
    split at h
    · cases h
    · rename_i hy
      rcases List.mem_cons.1 hx with rfl | hx
      · exact hy
      · exact find_none h x hx
theorem find_some {c : Int} : ∀ {xs : List Int} {k r : Int}, findC c k xs = some r → ∃ j : Nat, r = k + j ∧ j < xs.length ∧ xs.getD j 0 = c
  | [], _, _, h => by simp [findC] at h
  | y :: xs, k, r, h => by
    simp only [findC] at h
    split at h
    · rename_i hy
      simp only [Option.some.injEq] at h
      exact ⟨0, by simp [h], by simp, hy⟩
    · obtain ⟨j, a, b, e⟩ := find_some h
      exact ⟨j + 1, by rw [a]; show k + 1 + (j : Int) = k + ((j + 1 : Nat) : Int); omega, by simp only [List.length_cons]; omega, e⟩
theorem seatOf_is {d : Bool} {c : Int} : ∀ (ss P : List (Int × Bool × List Int)), (∀ s k s' k', Sits (P ++ ss) d c s k → Sits (P ++ ss) d c s' k' → s = s' ∧ k = k') → (∀ s k, ¬ Sits P d c s k) → IsSeat (P ++ ss) d c (seatOf d c P.length ss)
  | [], P, _, hn => by
    rw [List.append_nil]
    exact ⟨fun s k h => absurd h (hn s k), fun _ => rfl⟩
  | x :: ss, P, hu, hn => by
    have el : ((P ++ [x]).length : Int) = P.length + 1 := by simp
    simp only [seatOf]
    rw [List.append_cons] at hu ⊢
    split
    · rename_i k hk
      split at hk
      · rename_i hd
        obtain ⟨j, a, b, e⟩ := find_some hk
        have hs : Sits (P ++ [x] ++ ss) d c P.length j := sits_more (sits_snoc.2 (.inr ⟨rfl, hd, b, e⟩))
        refine ⟨fun s' k' h' => ?_, fun h => absurd hs (h _ _)⟩
        obtain ⟨p, q⟩ := hu _ _ _ _ hs h'
        rw [← p, ← q, a]
        simp
      · cases hk
    · rename_i hk
      rw [← el]
      refine seatOf_is ss (P ++ [x]) hu (fun s k h => ?_)
      rcases sits_snoc.1 h with h | ⟨_, hd, hl, e⟩
      · exact hn s k h
      · rw [if_pos hd] at hk
        refine find_none hk (x.2.2.getD k 0) ?_ e
        rw [List.getD_eq_getElem?_getD, List.getElem?_eq_getElem hl]
        exact List.getElem_mem hl
theorem seatOf_seats {g : Gr} (hc : checkF g = 0) {c : Int} (c0 : 0 ≤ c) : seatOf false c 0 (slotsF g) = sAt (seatsF g).1 c ∧ seatOf true c 0 (slotsF g) = sAt (seatsF g).2 c := by
  have h := seats_are hc c0
  have k : ∀ d, IsSeat (slotsF g) d c (seatOf d c 0 (slotsF g)) := fun d => seatOf_is (slotsF g) [] (fun _ _ _ _ a b => sits_unique hc a b) (fun s k h => by obtain ⟨x, hx, _⟩ := h; simp at hx)
  exact ⟨isSeat_unique (k false) h.1, isSeat_unique (k true) h.2.1⟩
end Go.Proofs.YtnakmganodkliaaDoorAm
set_option maxRecDepth 100000
namespace Go.Proofs.YtnakmganodkliaaDoorAm
open Go
def vq12 (S : List (Int × Bool × List Int)) (c : Int) (s : Int) (d : Bool) (k : Int) (G : Nat → St → Prop) (R : D × List (Option Row) × List Row → Prop) : Prop := let yy0 := ((Ty.int IntKind.i64).prod (Ty.bool.prod (Ty.int IntKind.i64).sl)); let yy1 := (stOf 48 [0, 1, 2, 6, 7, 8] [D.sl false false yy0 S, D.v (Value.int IntKind.i64 c), D.v (Value.bool d), D.ptr 0 0 0, D.v (Value.int IntKind.i64 s), D.v (Value.int IntKind.i64 (IntKind.i64.wrap (k + (1 : Int))))] [Slot.live (Row.box 61 [D.v (Value.int IntKind.i64 (0 : Int)), D.v (Value.int IntKind.i64 (0 : Int))])]); let yy2 := (S.getD s.toNat yy0.dflt); (0 : Int) ≤ s ∧ s < (↑S.length : Int) ∧ (decide (k < (↑(List.length yy2.snd.snd) : Int)) = true → (0 : Int) ≤ s ∧ s < (↑S.length : Int) ∧ ((yy2.snd.fst == d) = true → (0 : Int) ≤ s ∧ s < (↑S.length : Int) ∧ (0 : Int) ≤ k ∧ k < (↑(List.length yy2.snd.snd) : Int) ∧ ((List.getD yy2.snd.snd k.toNat (Ty.int IntKind.i64).dflt == c) = true → R (D.agg [D.v (Value.int IntKind.i64 s), D.v (Value.int IntKind.i64 k)], [], [])) ∧ ((List.getD yy2.snd.snd k.toNat (Ty.int IntKind.i64).dflt == c) = false → SameK (KK q82 1) (KK q82 1) ∧ G 1 yy1)) ∧ ((yy2.snd.fst == d) = false → false = false ∧ SameK (KK q82 1) (KK q82 1) ∧ G 1 yy1)) ∧ (decide (k < (↑(List.length yy2.snd.snd) : Int)) = false → SameK (KK q82 0) (KK q82 0) ∧ G 0 (stOf 48 [0, 1, 2, 6, 7] [D.sl false false yy0 S, D.v (Value.int IntKind.i64 c), D.v (Value.bool d), D.ptr 0 0 0, D.v (Value.int IntKind.i64 (IntKind.i64.wrap (s + (1 : Int))))] [Slot.live (Row.box 61 [D.v (Value.int IntKind.i64 (0 : Int)), D.v (Value.int IntKind.i64 (0 : Int))])]))
theorem e82_1 (S : List (Int × Bool × List Int)) (c s : Int) (d : Bool) (x : Int × Bool × List Int) (r : D × List (Option Row) × List Row) (s0 : 0 ≤ s) (sl : s < S.length) (hS : S.length ≤ 600) (hx : S.getD s.toNat (Ty.dflt (.prod (.int .i64) (.prod .bool (.sl (.int .i64))))) = x) (hl : x.2.2.length ≤ 300) (m : Nat) : ∀ (k : Int), 0 ≤ k → k + m = x.2.2.length →
    (match (if x.2.1 = d then findC c k (x.2.2.drop k.toNat) else none) with | some k' => r = (.agg [.v (.int .i64 (s, k').1), .v (.int .i64 (s, k').2)], [], []) | none => GetsK Tryd.prog Tryd.f82.results.toList [none] (KK q82) 0 r 0 (stOf 48 [0,1,2,6,7] [.sl false false SlT S, .v (.int .i64 c), .v (.bool d), .ptr 0 0 0, .v (.int .i64 (s + 1))] [.live (.box 61 [.v (.int .i64 0), .v (.int .i64 0)])])) → GetsK Tryd.prog Tryd.f82.results.toList [none] (KK q82) 0 r 1 (stOf 48 [0,1,2,6,7,8] [.sl false false SlT S, .v (.int .i64 c), .v (.bool d), .ptr 0 0 0, .v (.int .i64 s), .v (.int .i64 k)] [.live (.box 61 [.v (.int .i64 0), .v (.int .i64 0)])]) := by
  induction m with
  | zero =>
    intro k k0 km h
    rw [List.drop_eq_nil_of_le (by omega)] at h
    simp only [findC, ite_self] at h
    refine gets_vc spH (fun k => [[0,1,2,6,7],[0,1,2,6,7,8]].getD k []) (fun _ => []) 400 (.fork (.fork (.fork .stop (.hd 1)) (.f (.hd 1))) (.hd 0)) (V := vq12 S c s d k) hmG (fun G R => by kernel_rfl) ?_
    unfold vq12
    try dsimp only
    rw [hx]
    simp (disch := omega) only [wrG, sameK_iff, true_and, and_true, decide_eq_true_eq, decide_eq_false_iff_not, ne_eq, not_false_eq_true, Bool.false_eq_true, Bool.true_eq_false, false_implies, true_implies, Ty.dflt, reduceCtorEq, beq_iff_eq, bne_iff_ne, beq_eq_false_iff_ne, bne_eq_false_iff_eq, Bool.not_eq_true, Bool.not_eq_eq_eq_not, Bool.not_true, Bool.not_false, gt_iff_lt, ge_iff_le, Int.not_lt, Int.not_le]
    repeat' (first | with_reducible refine And.intro ?_ ?_ | intro _)
    all_goals first | rfl | omega | assumption | trivial | (exfalso; simp_all; done) | skip
  | succ m ih =>
    intro k k0 km h
    have hd := drop_at (xs := x.2.2) (i := k) (0 : Int) k0 (by omega)
    have hi := ih (k + 1) (by omega) (by omega)
    rw [hd] at h
    simp only [findC] at h
    refine gets_vc spH (fun k => [[0,1,2,6,7],[0,1,2,6,7,8]].getD k []) (fun _ => []) 400 (.fork (.fork (.fork .stop (.hd 1)) (.f (.hd 1))) (.hd 0)) (V := vq12 S c s d k) hmG (fun G R => by kernel_rfl) ?_
    unfold vq12
    try dsimp only
    rw [hx]
    simp only [Ty.dflt]
    by_cases h1 : x.2.1 = d
    · simp only [h1, if_true] at h hi
      by_cases h2 : x.2.2.getD k.toNat 0 = c
      · simp only [h2, if_true] at h
        subst h
        simp (disch := omega) only [wrG, sameK_iff, true_and, and_true, decide_eq_true_eq, decide_eq_false_iff_not, ne_eq, not_false_eq_true, Bool.false_eq_true, Bool.true_eq_false, false_implies, true_implies, Ty.dflt, reduceCtorEq, beq_iff_eq, bne_iff_ne, beq_eq_false_iff_ne, bne_eq_false_iff_eq, Bool.not_eq_true, Bool.not_eq_eq_eq_not, Bool.not_true, Bool.not_false, gt_iff_lt, ge_iff_le, Int.not_lt, Int.not_le]
        repeat' (first | with_reducible refine And.intro ?_ ?_ | intro _)
        all_goals first | rfl | omega | assumption | trivial | (exfalso; simp_all; done) | skip
      · simp only [h2, if_false] at h
        have hj := hi h
        simp (disch := omega) only [wrG, sameK_iff, true_and, and_true, decide_eq_true_eq, decide_eq_false_iff_not, ne_eq, not_false_eq_true, Bool.false_eq_true, Bool.true_eq_false, false_implies, true_implies, Ty.dflt, reduceCtorEq, beq_iff_eq, bne_iff_ne, beq_eq_false_iff_ne, bne_eq_false_iff_eq, Bool.not_eq_true, Bool.not_eq_eq_eq_not, Bool.not_true, Bool.not_false, gt_iff_lt, ge_iff_le, Int.not_lt, Int.not_le]
        repeat' (first | with_reducible refine And.intro ?_ ?_ | intro _)
        all_goals first | rfl | omega | assumption | trivial | (exfalso; simp_all; done) | skip
    · simp only [h1, if_false] at h hi
      have hj := hi h
      simp (disch := omega) only [wrG, sameK_iff, true_and, and_true, decide_eq_true_eq, decide_eq_false_iff_not, ne_eq, not_false_eq_true, Bool.false_eq_true, Bool.true_eq_false, false_implies, true_implies, Ty.dflt, reduceCtorEq, beq_iff_eq, bne_iff_ne, beq_eq_false_iff_ne, bne_eq_false_iff_eq, Bool.not_eq_true, Bool.not_eq_eq_eq_not, Bool.not_true, Bool.not_false, gt_iff_lt, ge_iff_le, Int.not_lt, Int.not_le]
      repeat' (first | with_reducible refine And.intro ?_ ?_ | intro _)
      all_goals first | rfl | omega | assumption | trivial | (exfalso; simp_all; done) | skip
def vq13 (S : List (Int × Bool × List Int)) (c : Int) (d : Bool) (s : Int) (G : Nat → St → Prop) (R : D × List (Option Row) × List Row → Prop) : Prop := let yy0 := (Value.int IntKind.i64 (0 : Int)); (decide (s < (↑S.length : Int)) = true → SameK (KK q82 1) (KK q82 1) ∧ G 1 (stOf 48 [0, 1, 2, 6, 7, 8] [D.sl false false ((Ty.int IntKind.i64).prod (Ty.bool.prod (Ty.int IntKind.i64).sl)) S, D.v (Value.int IntKind.i64 c), D.v (Value.bool d), D.ptr 0 0 0, D.v (Value.int IntKind.i64 s), D.v yy0] [Slot.live (Row.box 61 [D.v yy0, D.v yy0])])) ∧ (decide (s < (↑S.length : Int)) = false → R (D.agg [D.v (Value.int IntKind.i64 (-1 : Int)), D.v yy0], [], []))
theorem e82_0 (S : List (Int × Bool × List Int)) (c : Int) (d : Bool) (hS : S.length ≤ 600) (hl : ∀ x ∈ S, x.2.2.length ≤ 300) (r : D × List (Option Row) × List Row) (m : Nat) : ∀ (s : Int), 0 ≤ s → s + m = S.length → r = (.agg [.v (.int .i64 (seatOf d c s (S.drop s.toNat)).1), .v (.int .i64 (seatOf d c s (S.drop s.toNat)).2)], [], []) → GetsK Tryd.prog Tryd.f82.results.toList [none] (KK q82) 0 r 0 (stOf 48 [0,1,2,6,7] [.sl false false SlT S, .v (.int .i64 c), .v (.bool d), .ptr 0 0 0, .v (.int .i64 s)] [.live (.box 61 [.v (.int .i64 0), .v (.int .i64 0)])]) := by
  induction m with
  | zero =>
    intro s s0 sm h
    rw [List.drop_eq_nil_of_le (by omega)] at h
    simp only [seatOf] at h
    subst h
    refine gets_vc spH (fun k => [[0,1,2,6,7],[0,1,2,6,7,8]].getD k []) (fun _ => []) 400 (.fork (.hd 1) .stop) (V := vq13 S c d s) hmG (fun G R => by kernel_rfl) ?_
    unfold vq13
    try dsimp only
    simp (disch := omega) only [wrG, sameK_iff, true_and, and_true, decide_eq_true_eq, decide_eq_false_iff_not, ne_eq, not_false_eq_true, Bool.false_eq_true, Bool.true_eq_false, false_implies, true_implies, Ty.dflt, reduceCtorEq, beq_iff_eq, bne_iff_ne, beq_eq_false_iff_ne, bne_eq_false_iff_eq, Bool.not_eq_true, Bool.not_eq_eq_eq_not, Bool.not_true, Bool.not_false, gt_iff_lt, ge_iff_le, Int.not_lt, Int.not_le]
    repeat' (first | with_reducible refine And.intro ?_ ?_ | intro _)
    all_goals first | rfl | omega | assumption | trivial | (exfalso; simp_all; done) | skip
  | succ m ih =>
    intro s s0 sm h
    have hd := drop_at (xs := S) (i := s) (Ty.dflt (.prod (.int .i64) (.prod .bool (.sl (.int .i64))))) s0 (by omega)
    have hm : S.getD s.toNat (Ty.dflt (.prod (.int .i64) (.prod .bool (.sl (.int .i64))))) ∈ S := List.mem_of_mem_drop (i := s.toNat) (by rw [hd]; exact List.mem_cons_self)
    rw [hd] at h
    have hi := ih (s + 1) (by omega) (by omega)
    simp only [seatOf] at h
    have e1 := e82_1 S c s d _ r s0 (by omega) hS rfl (hl _ hm) _ 0 (by omega) (Int.zero_add _) (by
      simp only [show (0 : Int).toNat = 0 by rfl, List.drop_zero]
      split
      · rename_i k' hk
        rw [hk] at h
        exact h
      · rename_i hk
        rw [hk] at h
        exact hi h)
    refine gets_vc spH (fun k => [[0,1,2,6,7],[0,1,2,6,7,8]].getD k []) (fun _ => []) 400 (.fork (.hd 1) .stop) (V := vq13 S c d s) hmG (fun G R => by kernel_rfl) ?_
    unfold vq13
    try dsimp only
    simp (disch := omega) only [wrG, sameK_iff, true_and, and_true, decide_eq_true_eq, decide_eq_false_iff_not, ne_eq, not_false_eq_true, Bool.false_eq_true, Bool.true_eq_false, false_implies, true_implies, Ty.dflt, reduceCtorEq, beq_iff_eq, bne_iff_ne, beq_eq_false_iff_ne, bne_eq_false_iff_eq, Bool.not_eq_true, Bool.not_eq_eq_eq_not, Bool.not_true, Bool.not_false, gt_iff_lt, ge_iff_le, Int.not_lt, Int.not_le]
    repeat' (first | with_reducible refine And.intro ?_ ?_ | intro _)
    all_goals first | rfl | omega | assumption | trivial | (exfalso; simp_all; done) | skip
theorem d82D (S : List (Int × Bool × List Int)) (c : Int) (d : Bool) (hS : S.length ≤ 600) (hl : ∀ x ∈ S, x.2.2.length ≤ 300) : Con Tryd.prog 82 [] [.sl false false SlT S, .v (.int .i64 c), .v (.bool d)] ((.agg [.v (.int .i64 (seatOf d c 0 S).1), .v (.int .i64 (seatOf d c 0 S).2)])) [] [] := by
  refine con_vc (how := [none]) (c := q82) (K := (KK q82)) spH (fun k => [[0,1,2,6,7],[0,1,2,6,7,8]].getD k []) (fun _ => []) 400 (.hd 0) (V := fun G R => SameK (KK q82 0) (KK q82 0) ∧ G 0 (stOf 48 [0, 1, 2, 6, 7] [D.sl false false ((Ty.int IntKind.i64).prod (Ty.bool.prod (Ty.int IntKind.i64).sl)) S, D.v (Value.int IntKind.i64 c), D.v (Value.bool d), D.ptr 0 0 0, D.v (Value.int IntKind.i64 (0 : Int))] [Slot.live (Row.box 61 [D.v (Value.int IntKind.i64 (0 : Int)), D.v (Value.int IntKind.i64 (0 : Int))])])) hmG Tryd.func82 (by kernel_rfl) (by kernel_rfl) (fun G R => by kernel_rfl) ?_
  try dsimp only
  have h := e82_0 S c d hS hl _ S.length 0 (by omega) (by omega) rfl
  simp only [show (0 : Int).toNat = 0 by rfl, List.drop_zero] at h
  simp (disch := omega) only [wrG, sameK_iff, true_and, and_true, decide_eq_true_eq, decide_eq_false_iff_not, ne_eq, not_false_eq_true, Bool.false_eq_true, Bool.true_eq_false, false_implies, true_implies, Ty.dflt, reduceCtorEq, beq_iff_eq, bne_iff_ne, beq_eq_false_iff_ne, bne_eq_false_iff_eq, Bool.not_eq_true, Bool.not_eq_eq_eq_not, Bool.not_true, Bool.not_false, gt_iff_lt, ge_iff_le, Int.not_lt, Int.not_le]
  repeat' (first | with_reducible refine And.intro ?_ ?_ | intro _)
  all_goals first | rfl | omega | assumption | trivial | (exfalso; simp_all; done) | skip
theorem take_next {A : List (Int × Int)} {i : Int} (i0 : 0 ≤ i) (il : i < A.length) : A.take (i + 1).toNat = A.take i.toNat ++ [sAt A i] := by
  rw [show (i + 1).toNat = i.toNat + 1 by omega, List.take_add_one]
  unfold sAt
  rw [List.getD_eq_getElem?_getD, List.getElem?_eq_getElem (by omega)]
  rfl
def vq14 (g : Gr) (S : List (Int × Bool × List Int)) (i : Int) (A : List (Int × Int)) (E : List (Int × Int)) (G : Nat → St → Prop) (R : D × List (Option Row) × List Row → Prop) : Prop := let yy0 := (List.take S.length (List.drop 0 S)); let yy1 := (Ty.int IntKind.i64); let yy2 := (seatOf false i (0 : Int) yy0); let yy3 := (seatOf true i (0 : Int) yy0); (decide (i < IntKind.i64.wrap (g.h * g.w)) = true → Con Tryd.prog 82 [] [D.sl false false (yy1.prod (Ty.bool.prod yy1.sl)) yy0, D.v (Value.int IntKind.i64 i), D.v (Value.bool false)] (D.agg [D.v (Value.int IntKind.i64 yy2.fst), D.v (Value.int IntKind.i64 yy2.snd)]) [] [] ∧ List.take S.length (List.drop 0 S) = List.take S.length (List.drop 0 S) ∧ Value.int IntKind.i64 i = Value.int IntKind.i64 i ∧ Value.bool false = Value.bool false ∧ roomy Tryd.prog 61 (A.length + 1) ∧ Con Tryd.prog 82 [] [D.sl false false (yy1.prod (Ty.bool.prod yy1.sl)) yy0, D.v (Value.int IntKind.i64 i), D.v (Value.bool true)] (D.agg [D.v (Value.int IntKind.i64 yy3.fst), D.v (Value.int IntKind.i64 yy3.snd)]) [] [] ∧ List.take S.length (List.drop 0 S) = List.take S.length (List.drop 0 S) ∧ Value.int IntKind.i64 i = Value.int IntKind.i64 i ∧ Value.bool true = Value.bool true ∧ roomy Tryd.prog 61 (E.length + 1) ∧ SameK (KK q41 0) (KK q41 0) ∧ G 0 (stOf 36 [1, 4, 5, 6, 7] [D.ptr 0 0 0, D.own 1 0 (A.length + 1) none, D.own 2 0 (E.length + 1) none, D.own 3 0 S.length none, D.v (Value.int IntKind.i64 (IntKind.i64.wrap (i + (1 : Int))))] [Slot.live (Row.box 46 [D.v (Value.int IntKind.i64 g.h), D.v (Value.int IntKind.i64 g.w), D.sl false false Ty.bool g.B, D.sl false false Ty.bool g.R, D.sl false false Ty.bool g.L]), Slot.live (Row.data 61 (yy1.prod yy1) (List.take A.length (List.drop 0 A) ++ List.take 1 (List.drop 0 [(yy2.fst, yy2.snd)]))), Slot.live (Row.data 61 (yy1.prod yy1) (List.take E.length (List.drop 0 E) ++ List.take 1 (List.drop 0 [(yy3.fst, yy3.snd)]))), Slot.live (Row.data 50 (yy1.prod (Ty.bool.prod yy1.sl)) S)])) ∧ (decide (i < IntKind.i64.wrap (g.h * g.w)) = false → R (D.tup [D.own 0 0 A.length none, D.own 1 0 E.length none], [], [Row.data 61 (yy1.prod yy1) A, Row.data 61 (yy1.prod yy1) E]))
theorem e41D (g : Gr) (hc : checkF g = 0) (S : List (Int × Bool × List Int)) (hS : S = slotsF g) (hl : ∀ x ∈ S, x.2.2.length ≤ 300) (m : Nat) : ∀ (i : Int), 0 ≤ i → i + m = g.h * g.w → ∀ (A E : List (Int × Int)), A = (seatsF g).1.take i.toNat → E = (seatsF g).2.take i.toNat → GetsK Tryd.prog Tryd.f41.results.toList [none, none] (KK q41) 0 (.tup [.own 0 0 (seatsF g).1.length none, .own 1 0 (seatsF g).2.length none], [], [.data 61 SeT (seatsF g).1, .data 61 SeT (seatsF g).2]) 0 (stOf 36 [1,4,5,6,7] [.ptr 0 0 0, .own 1 0 A.length none, .own 2 0 E.length none, .own 3 0 S.length none, .v (.int .i64 i)] [.live (.box 46 [.v (.int .i64 g.h), .v (.int .i64 g.w), .sl false false .bool g.B, .sl false false .bool g.R, .sl false false .bool g.L]), .live (.data 61 SeT A), .live (.data 61 SeT E), .live (.data 50 SlT S)]) := by
  have hw := hw_in (chk0.1 hc).1 (chk0.1 hc).2.1
  have ew := hw_wrap (chk0.1 hc).1 (chk0.1 hc).2.1
  have sa := seats_are hc (c := 0) (by omega)
  have hsm : S.length ≤ 512 := by rw [hS]; exact slots_small g
  induction m with
  | zero =>
    intro i i0 im A E hA hE
    rw [List.take_of_length_le (by omega)] at hA hE
    refine gets_vc spH (fun _ => [1,4,5,6,7]) (fun k => if k = 0 then [⟨4, 61, SeT⟩, ⟨5, 61, SeT⟩] else [⟨2, 61, SeT⟩, ⟨3, 61, SeT⟩]) 400 (.fork (.hd 0) .stop) (V := vq14 g S i A E) hmG (fun G R => by kernel_rfl) ?_
    unfold vq14
    try dsimp only
    subst hA hE
    rw [ew]
    simp (disch := omega) only [wrG, sameK_iff, true_and, and_true, decide_eq_true_eq, decide_eq_false_iff_not, ne_eq, not_false_eq_true, Bool.false_eq_true, Bool.true_eq_false, false_implies, true_implies, Ty.dflt, reduceCtorEq, beq_iff_eq, bne_iff_ne, beq_eq_false_iff_ne, bne_eq_false_iff_eq, Bool.not_eq_true, Bool.not_eq_eq_eq_not, Bool.not_true, Bool.not_false, gt_iff_lt, ge_iff_le, Int.not_lt, Int.not_le]
    repeat' (first | with_reducible refine And.intro ?_ ?_ | intro _)
    all_goals first | rfl | omega | assumption | trivial | (exfalso; simp_all; done) | skip
  | succ m ih =>
    intro i i0 im A E hA hE
    have so := seatOf_seats hc i0
    rw [← hS] at so
    have cA := d82D S i false (by omega) hl
    have cE := d82D S i true (by omega) hl
    rw [so.1] at cA
    rw [so.2] at cE
    have hx := ih (i + 1) (by omega) (by omega) (A ++ [sAt (seatsF g).1 i]) (E ++ [sAt (seatsF g).2 i]) (by rw [hA, take_next i0 (by omega)]) (by rw [hE, take_next i0 (by omega)])
    simp only [List.length_append, List.length_cons, List.length_nil, Nat.zero_add] at hx
    have lA : A.length ≤ 300 := by rw [hA, List.length_take]; omega
    have lE : E.length ≤ 300 := by rw [hE, List.length_take]; omega
    refine gets_vc spH (fun _ => [1,4,5,6,7]) (fun k => if k = 0 then [⟨4, 61, SeT⟩, ⟨5, 61, SeT⟩] else [⟨2, 61, SeT⟩, ⟨3, 61, SeT⟩]) 400 (.fork (.hd 0) .stop) (V := vq14 g S i A E) hmG (fun G R => by kernel_rfl) ?_
    unfold vq14
    try dsimp only
    simp only [ew, take_len, so.1, so.2]
    simp (disch := omega) only [wrG, sameK_iff, true_and, and_true, decide_eq_true_eq, decide_eq_false_iff_not, ne_eq, not_false_eq_true, Bool.false_eq_true, Bool.true_eq_false, false_implies, true_implies, Ty.dflt, reduceCtorEq, beq_iff_eq, bne_iff_ne, beq_eq_false_iff_ne, bne_eq_false_iff_eq, Bool.not_eq_true, Bool.not_eq_eq_eq_not, Bool.not_true, Bool.not_false, gt_iff_lt, ge_iff_le, Int.not_lt, Int.not_le]
    repeat' (first | with_reducible refine And.intro ?_ ?_ | intro _)
    all_goals first | rfl | omega | assumption | trivial | exact room104 (by omega) | (exfalso; simp_all; done) | skip
theorem d41D (g : Gr)  : Con Tryd.prog 41 [] [g.d] ((.tup [.own 0 0 (seatsF g).1.length none, .own 1 0 (seatsF g).2.length none])) [] [.data 61 SeT (seatsF g).1, .data 61 SeT (seatsF g).2] := by
  refine con_vc (how := [none, none]) (c := q41) (K := (KK q41)) spH (fun _ => [1,4,5,6,7]) (fun k => if k = 0 then [⟨4, 61, SeT⟩, ⟨5, 61, SeT⟩] else [⟨2, 61, SeT⟩, ⟨3, 61, SeT⟩]) 400 (.fork .stop (.hd 0)) (V := fun G R => let yy0 := (Ty.int IntKind.i64); Con Tryd.prog 80 [] [D.agg [D.v (Value.int IntKind.i64 g.h), D.v (Value.int IntKind.i64 g.w), D.sl false false Ty.bool g.B, D.sl false false Ty.bool g.R, D.sl false false Ty.bool g.L]] (D.v (Value.int IntKind.i64 (checkF g))) [] [] ∧ Value.int IntKind.i64 g.h = Value.int IntKind.i64 g.h ∧ Value.int IntKind.i64 g.w = Value.int IntKind.i64 g.w ∧ g.B = g.B ∧ g.R = g.R ∧ g.L = g.L ∧ ((checkF g != (0 : Int)) = true → R (D.tup [D.own 0 0 0 none, D.own 1 0 0 none], [], [Row.data 61 (yy0.prod yy0) [], Row.data 61 (yy0.prod yy0) []])) ∧ ((checkF g != (0 : Int)) = false → Con Tryd.prog 38 [] [D.agg [D.v (Value.int IntKind.i64 g.h), D.v (Value.int IntKind.i64 g.w), D.sl false false Ty.bool g.B, D.sl false false Ty.bool g.R, D.sl false false Ty.bool g.L]] (D.own 0 0 (slotsF g).length none) [] [Row.data 50 (yy0.prod (Ty.bool.prod yy0.sl)) (slotsF g)] ∧ Value.int IntKind.i64 g.h = Value.int IntKind.i64 g.h ∧ Value.int IntKind.i64 g.w = Value.int IntKind.i64 g.w ∧ g.B = g.B ∧ g.R = g.R ∧ g.L = g.L ∧ SameK (KK q41 0) (KK q41 0) ∧ G 0 (stOf 36 [1, 4, 5, 6, 7] [D.ptr 0 0 0, D.own 1 0 0 none, D.own 2 0 0 none, D.own 3 0 (slotsF g).length none, D.v (Value.int IntKind.i64 (0 : Int))] [Slot.live (Row.box 46 [D.v (Value.int IntKind.i64 g.h), D.v (Value.int IntKind.i64 g.w), D.sl false false Ty.bool g.B, D.sl false false Ty.bool g.R, D.sl false false Ty.bool g.L]), Slot.live (Row.data 61 (yy0.prod yy0) []), Slot.live (Row.data 61 (yy0.prod yy0) []), Slot.live (Row.data 50 (yy0.prod (Ty.bool.prod yy0.sl)) (slotsF g))]))) hmG Tryd.func41 (by kernel_rfl) (by kernel_rfl) (fun G R => by kernel_rfl) ?_
  try dsimp only
  try dsimp only
  have c := d44 g
  have c2 := d100 g
  by_cases hc : checkF g = 0
  · have hw := hw_in (chk0.1 hc).1 (chk0.1 hc).2.1
    have hx := e41D g hc (slotsF g) rfl (fun x hx => by
      have es : slotsF g = slotsFrom g (g.h * g.w).toNat 0 0 := if_pos hc
      rw [es] at hx
      have := (slots_open _ _ _ x hx).1
      omega) (g.h * g.w).toNat 0 (by omega) (by omega) [] [] (by simp) (by simp)
    rw [hc] at c ⊢
    simp (disch := omega) only [wrG, sameK_iff, true_and, and_true, decide_eq_true_eq, decide_eq_false_iff_not, ne_eq, not_false_eq_true, Bool.false_eq_true, Bool.true_eq_false, false_implies, true_implies, Ty.dflt, reduceCtorEq, beq_iff_eq, bne_iff_ne, beq_eq_false_iff_ne, bne_eq_false_iff_eq, Bool.not_eq_true, Bool.not_eq_eq_eq_not, Bool.not_true, Bool.not_false, gt_iff_lt, ge_iff_le, Int.not_lt, Int.not_le]
    repeat' (first | with_reducible refine And.intro ?_ ?_ | intro _)
    all_goals first | rfl | omega | assumption | trivial | (exfalso; simp_all; done) | skip
  · have e : seatsF g = ([], []) := if_neg hc
    rw [e]
    simp (disch := omega) only [wrG, sameK_iff, true_and, and_true, decide_eq_true_eq, decide_eq_false_iff_not, ne_eq, not_false_eq_true, Bool.false_eq_true, Bool.true_eq_false, false_implies, true_implies, Ty.dflt, reduceCtorEq, beq_iff_eq, bne_iff_ne, beq_eq_false_iff_ne, bne_eq_false_iff_eq, Bool.not_eq_true, Bool.not_eq_eq_eq_not, Bool.not_true, Bool.not_false, gt_iff_lt, ge_iff_le, Int.not_lt, Int.not_le]
    repeat' (first | with_reducible refine And.intro ?_ ?_ | intro _)
    all_goals first | rfl | omega | assumption | trivial | (exfalso; simp_all; done) | skip
end Go.Proofs.YtnakmganodkliaaDoorAm
namespace Go.Proofs.YtnakmganodkliaaDoorAm
open Go
structure Grew (w w' : World) : Prop where
  os : w'.os = w.os
  tape : w'.tape = w.tape
  output : w'.output = w.output
  size : w.heap.size ≤ w'.heap.size
  keep : ∀ k, k < w.heap.size → w'.heap[k]? = w.heap[k]?
def Yields (P : Program) (l : Nat) (x : List Value) (w : World) (R : Bool → World → Prop) : Prop :=
  ∃ f tmps assign body, (Instr.yield l x.toArray).run P w = .ok (.round l f tmps assign body) w ∧
    ∀ (c : Frame) (cs : List Frame), ∃ bv w', R bv w' ∧ Steps P (lone (Frame.round l f tmps assign body .normal) (c :: cs) w) (lone (c.finish (.bool bv)) cs w')
structure Kept (U : Nat → Prop) (w w' : World) : Prop where
  size : w.heap.size ≤ w'.heap.size
  keep : ∀ k, k < w.heap.size → ¬ U k → w'.heap[k]? = w.heap[k]?
def bareX (S : Nat → Prop) (w : World) : Ctx := ⟨fun _ => none, [], S, w⟩
structure IterP (P : Program) (g : FuncId) (caps : List D) (xs : List (List Value)) : Prop where
  fn : ∃ fn, P.funcs[g]? = some fn ∧ (fn.name == "runtime.NumGoroutine") = false ∧ fn.body.isNone = false
  run : ∀ (l : Nat) (lb : List Value) (S : Nat → Prop) (J : Nat → (Nat → Prop) → World → Prop) (Jx : World → Prop),
    (∀ i U w, J i U w → ∀ k, U k → k < w.heap.size) →
    (∀ i U w w', Grew w w' → J i U w → J i U w') → (∀ w w', Grew w w' → Jx w → Jx w') →
    (∀ i x U w, xs[i]? = some x → J i U w → Yields P l x w fun c w' => Kept U w w' ∧ if c then ∃ U', J (i + 1) U' w' ∧ ∀ k, U' k → U k ∨ w.heap.size ≤ k else Jx w') →
    ∀ U w, J 0 U w → (∀ k, S k → k < w.heap.size ∧ ¬ U k) → GlobOk S w → RelDs (bareX S w) caps lb →
      Calls P g (#[.func (.yield l) #[] #[]] ++ lb.toArray) w fun e w' => (∃ v, e = .returned v) ∧ ((∃ U', J xs.length U' w') ∨ Jx w')
end Go.Proofs.YtnakmganodkliaaDoorAm
set_option maxRecDepth 100000
namespace Go.Proofs.YtnakmganodkliaaDoorAm
open Go
abbrev kS : NK := ⟨50, SlT, 2, 3, .int .i64⟩
abbrev slS (S : List (Int × Bool × List Int)) : D := .sl false false SlT S
abbrev slE (S : List (Int × Int)) : D := .sl false false SeT S
def flagS (ts : List Nat) (s : Sp) : Sp := fun f args rd => if ts.contains f then some { f := 0, args := [], val := .top, nk := some kS } else s f args rd
def spO : Sp := fun f args rd => match f, args with
  | 36, [.agg [.v (.int _ h), .v (.int _ w), b, r, l]] => withW rd h w b r l fun g ls => some { f := 36, args := [g.d], val := .own 0 0 (slotsF g).length none, allocs := [.nest kS (slotsF g) none], lent := ls }
  | 39, [a, b] => match slC rd SlT [a], slC rd SlT [b] with
    | some A, some B => some { f := 39, args := [slS A, slS B], val := .v (.bool (decide (A = B))), lent := refsDs [a, b] }
    | _, _ => none
  | 42, [a, b] => match slC rd SeT [a], slC rd SeT [b] with
    | some A, some B => some { f := 42, args := [slE A, slE B], val := .v (.bool (decide (A = B))), lent := refsDs [a, b] }
    | _, _ => none
  | f, args => spH f args rd
def isInts (rd : Nat → Option Row) : List D → Bool
  | .own id _ _ _ :: _ => match rd id with
    | some (.data _ (.int _) _) => true
    | _ => false
  | _ => false
def spP : Sp := fun f args rd => if f = 1000001 then (if isInts rd args then some { f := 0, args := [], val := .top } else none) else spO f args rd
theorem take_snD {α : Type} (l : List α) (x : α) : (l ++ [x]).take (l.length + 1) = l ++ [x] := List.take_of_length_le (by simp)
theorem getD_inD {α : Type} {l : List α} {k : Nat} {d : α} (h : k < l.length) : l.getD k d ∈ l := by
  rw [List.getD_eq_getElem?_getD, List.getElem?_eq_getElem h]
  exact List.getElem_mem h
noncomputable def q36 : Code := (Tryd.f36.body).getD .skip
noncomputable def q39 : Code := (Tryd.f39.body).getD .skip
noncomputable def q42 : Code := (Tryd.f42.body).getD .skip
noncomputable def q8 : Code := (Tryd.f8.body).getD .skip
end Go.Proofs.YtnakmganodkliaaDoorAm
set_option maxRecDepth 100000
namespace Go.Proofs.YtnakmganodkliaaDoorAm
open Go
def vq15 (g : Gr) (n : Nat) (i : Int) (num : Int) (ys : List (Int × Bool × List Int)) (G : Nat → St → Prop) (R : D × List (Option Row) × List Row → Prop) : Prop := let yy0 := (stOf 62 [1, 3, 4, 5, 19, 20] [D.ptr 0 0 0, D.own 1 0 ys.length none, D.fn 77 [D.ptr 0 0 0], D.v (Value.int IntKind.i64 num), D.v (Value.int IntKind.i64 (↑n : Int)), D.v (Value.int IntKind.i64 (IntKind.i64.wrap (i + (1 : Int))))] [Slot.live (Row.box 46 [D.v (Value.int IntKind.i64 g.h), D.v (Value.int IntKind.i64 g.w), D.sl false false Ty.bool g.B, D.sl false false Ty.bool g.R, D.sl false false Ty.bool g.L]), Slot.live (Row.nest (NK.mk 50 ((Ty.int IntKind.i64).prod (Ty.bool.prod (Ty.int IntKind.i64).sl)) 2 3 (Ty.int IntKind.i64)) ys none)]); let yy1 := (IntKind.i64.wrap ((0 : Int) + (1 : Int))); let yy2 := (IntKind.i64.wrap (IntKind.i64.wrap ((0 : Int) + (1 : Int)) + (2 : Int))); let yy3 := (stOf 62 [1, 3, 4, 5, 19, 20] [D.ptr 0 0 0, D.own 1 0 (ys.length + 1) none, D.fn 77 [D.ptr 0 0 0], D.v (Value.int IntKind.i64 (IntKind.i64.wrap (num + (1 : Int)))), D.v (Value.int IntKind.i64 (↑n : Int)), D.v (Value.int IntKind.i64 (IntKind.i64.wrap (i + (1 : Int))))] [Slot.live (Row.box 46 [D.v (Value.int IntKind.i64 g.h), D.v (Value.int IntKind.i64 g.w), D.sl false false Ty.bool g.B, D.sl false false Ty.bool g.R, D.sl false false Ty.bool g.L]), Slot.live (Row.nest (NK.mk 50 ((Ty.int IntKind.i64).prod (Ty.bool.prod (Ty.int IntKind.i64).sl)) 2 3 (Ty.int IntKind.i64)) (List.take ys.length ys ++ [(IntKind.i64.wrap (num + (1 : Int)), IntKind.i64.wrap ((0 : Int) + (1 : Int)) == (1 : Int), List.take (runOn g yy1 i).length (List.drop 0 (runOn g yy1 i)))]) none)]); let yy4 := (stOf 62 [1, 3, 4, 5, 19, 20] [D.ptr 0 0 0, D.own 1 0 (ys.length + 1) none, D.fn 77 [D.ptr 0 0 0], D.v (Value.int IntKind.i64 (IntKind.i64.wrap (num + (1 : Int)))), D.v (Value.int IntKind.i64 (↑n : Int)), D.v (Value.int IntKind.i64 (IntKind.i64.wrap (i + (1 : Int))))] [Slot.live (Row.box 46 [D.v (Value.int IntKind.i64 g.h), D.v (Value.int IntKind.i64 g.w), D.sl false false Ty.bool g.B, D.sl false false Ty.bool g.R, D.sl false false Ty.bool g.L]), Slot.live (Row.nest (NK.mk 50 ((Ty.int IntKind.i64).prod (Ty.bool.prod (Ty.int IntKind.i64).sl)) 2 3 (Ty.int IntKind.i64)) (List.take ys.length ys ++ [(IntKind.i64.wrap (num + (1 : Int)), (0 : Int) == (1 : Int), List.take (runOn g (0 : Int) i).length (List.drop 0 (runOn g (0 : Int) i)))]) none)]); let yy5 := (IntKind.i64.wrap (IntKind.i64.wrap ((0 : Int) + (1 : Int)) + (1 : Int)) < (2 : Int)); let yy6 := (Value.int IntKind.i64 g.h); let yy7 := (Value.int IntKind.i64 g.w); let yy8 := (Value.int IntKind.i64 i); let yy9 := (IntKind.i64.wrap ((0 : Int) + (2 : Int))); (decide (i < (↑n : Int)) = true → decide ((0 : Int) < (2 : Int)) = true ∧ Con Tryd.prog 37 [] [D.agg [D.v yy6, D.v yy7, D.sl false false Ty.bool g.B, D.sl false false Ty.bool g.R, D.sl false false Ty.bool g.L], D.v yy8, D.v (Value.int IntKind.i64 yy9)] (D.tup [D.v (Value.int IntKind.i64 (stepF g i yy9).fst), D.v (Value.bool (stepF g i yy9).snd)]) [] [] ∧ Value.int IntKind.i64 g.h = Value.int IntKind.i64 g.h ∧ Value.int IntKind.i64 g.w = Value.int IntKind.i64 g.w ∧ g.B = g.B ∧ g.R = g.R ∧ g.L = g.L ∧ Value.int IntKind.i64 i = Value.int IntKind.i64 i ∧ Value.int IntKind.i64 yy9 = Value.int IntKind.i64 yy9 ∧ ((stepF g i yy9).snd = true → decide (IntKind.i64.wrap ((0 : Int) + (1 : Int)) < (2 : Int)) = true ∧ Con Tryd.prog 37 [] [D.agg [D.v yy6, D.v yy7, D.sl false false Ty.bool g.B, D.sl false false Ty.bool g.R, D.sl false false Ty.bool g.L], D.v yy8, D.v (Value.int IntKind.i64 yy2)] (D.tup [D.v (Value.int IntKind.i64 (stepF g i yy2).fst), D.v (Value.bool (stepF g i yy2).snd)]) [] [] ∧ Value.int IntKind.i64 g.h = Value.int IntKind.i64 g.h ∧ Value.int IntKind.i64 g.w = Value.int IntKind.i64 g.w ∧ g.B = g.B ∧ g.R = g.R ∧ g.L = g.L ∧ Value.int IntKind.i64 i = Value.int IntKind.i64 i ∧ Value.int IntKind.i64 yy2 = Value.int IntKind.i64 yy2 ∧ ((stepF g i yy2).snd = true → decide yy5 = false ∧ SameK (KK q36 0) (KK q36 0) ∧ G 0 yy0) ∧ ((stepF g i yy2).snd = false → Con Tryd.prog 37 [] [D.agg [D.v yy6, D.v yy7, D.sl false false Ty.bool g.B, D.sl false false Ty.bool g.R, D.sl false false Ty.bool g.L], D.v yy8, D.v (Value.int IntKind.i64 yy1)] (D.tup [D.v (Value.int IntKind.i64 (stepF g i yy1).fst), D.v (Value.bool (stepF g i yy1).snd)]) [] [] ∧ Value.int IntKind.i64 g.h = Value.int IntKind.i64 g.h ∧ Value.int IntKind.i64 g.w = Value.int IntKind.i64 g.w ∧ g.B = g.B ∧ g.R = g.R ∧ g.L = g.L ∧ Value.int IntKind.i64 i = Value.int IntKind.i64 i ∧ Value.int IntKind.i64 yy1 = Value.int IntKind.i64 yy1 ∧ ((!(stepF g i yy1).snd) = true → decide yy5 = false ∧ SameK (KK q36 0) (KK q36 0) ∧ G 0 yy0) ∧ ((!(stepF g i yy1).snd) = false → (!false) = true ∧ Con Tryd.prog 77 [] [D.v yy8, D.v (Value.int IntKind.i64 yy1), D.rptr [D.v yy6, D.v yy7, D.sl false false Ty.bool g.B, D.sl false false Ty.bool g.R, D.sl false false Ty.bool g.L]] (D.own 0 0 (runOn g yy1 i).length none) [] [Row.data 3 (Ty.int IntKind.i64) (runOn g yy1 i)] ∧ Value.int IntKind.i64 i = Value.int IntKind.i64 i ∧ Value.int IntKind.i64 yy1 = Value.int IntKind.i64 yy1 ∧ Value.int IntKind.i64 g.h = Value.int IntKind.i64 g.h ∧ Value.int IntKind.i64 g.w = Value.int IntKind.i64 g.w ∧ g.B = g.B ∧ g.R = g.R ∧ g.L = g.L ∧ 1 = 1 ∧ roomy Tryd.prog 50 (ys.length + 1) ∧ decide yy5 = false ∧ SameK (KK q36 0) (KK q36 0) ∧ G 0 yy3))) ∧ ((stepF g i yy9).snd = false → Con Tryd.prog 37 [] [D.agg [D.v yy6, D.v yy7, D.sl false false Ty.bool g.B, D.sl false false Ty.bool g.R, D.sl false false Ty.bool g.L], D.v yy8, D.v (Value.int IntKind.i64 (0 : Int))] (D.tup [D.v (Value.int IntKind.i64 (stepF g i (0 : Int)).fst), D.v (Value.bool (stepF g i (0 : Int)).snd)]) [] [] ∧ Value.int IntKind.i64 g.h = Value.int IntKind.i64 g.h ∧ Value.int IntKind.i64 g.w = Value.int IntKind.i64 g.w ∧ g.B = g.B ∧ g.R = g.R ∧ g.L = g.L ∧ Value.int IntKind.i64 i = Value.int IntKind.i64 i ∧ Value.int IntKind.i64 (0 : Int) = Value.int IntKind.i64 (0 : Int) ∧ ((!(stepF g i (0 : Int)).snd) = true → decide (IntKind.i64.wrap ((0 : Int) + (1 : Int)) < (2 : Int)) = true ∧ Con Tryd.prog 37 [] [D.agg [D.v yy6, D.v yy7, D.sl false false Ty.bool g.B, D.sl false false Ty.bool g.R, D.sl false false Ty.bool g.L], D.v yy8, D.v (Value.int IntKind.i64 yy2)] (D.tup [D.v (Value.int IntKind.i64 (stepF g i yy2).fst), D.v (Value.bool (stepF g i yy2).snd)]) [] [] ∧ Value.int IntKind.i64 g.h = Value.int IntKind.i64 g.h ∧ Value.int IntKind.i64 g.w = Value.int IntKind.i64 g.w ∧ g.B = g.B ∧ g.R = g.R ∧ g.L = g.L ∧ Value.int IntKind.i64 i = Value.int IntKind.i64 i ∧ Value.int IntKind.i64 yy2 = Value.int IntKind.i64 yy2 ∧ ((stepF g i yy2).snd = true → decide yy5 = false ∧ SameK (KK q36 0) (KK q36 0) ∧ G 0 yy0) ∧ ((stepF g i yy2).snd = false → Con Tryd.prog 37 [] [D.agg [D.v yy6, D.v yy7, D.sl false false Ty.bool g.B, D.sl false false Ty.bool g.R, D.sl false false Ty.bool g.L], D.v yy8, D.v (Value.int IntKind.i64 yy1)] (D.tup [D.v (Value.int IntKind.i64 (stepF g i yy1).fst), D.v (Value.bool (stepF g i yy1).snd)]) [] [] ∧ Value.int IntKind.i64 g.h = Value.int IntKind.i64 g.h ∧ Value.int IntKind.i64 g.w = Value.int IntKind.i64 g.w ∧ g.B = g.B ∧ g.R = g.R ∧ g.L = g.L ∧ Value.int IntKind.i64 i = Value.int IntKind.i64 i ∧ Value.int IntKind.i64 yy1 = Value.int IntKind.i64 yy1 ∧ ((!(stepF g i yy1).snd) = true → decide yy5 = false ∧ SameK (KK q36 0) (KK q36 0) ∧ G 0 yy0) ∧ ((!(stepF g i yy1).snd) = false → (!false) = true ∧ Con Tryd.prog 77 [] [D.v yy8, D.v (Value.int IntKind.i64 yy1), D.rptr [D.v yy6, D.v yy7, D.sl false false Ty.bool g.B, D.sl false false Ty.bool g.R, D.sl false false Ty.bool g.L]] (D.own 0 0 (runOn g yy1 i).length none) [] [Row.data 3 (Ty.int IntKind.i64) (runOn g yy1 i)] ∧ Value.int IntKind.i64 i = Value.int IntKind.i64 i ∧ Value.int IntKind.i64 yy1 = Value.int IntKind.i64 yy1 ∧ Value.int IntKind.i64 g.h = Value.int IntKind.i64 g.h ∧ Value.int IntKind.i64 g.w = Value.int IntKind.i64 g.w ∧ g.B = g.B ∧ g.R = g.R ∧ g.L = g.L ∧ 1 = 1 ∧ roomy Tryd.prog 50 (ys.length + 1) ∧ decide yy5 = false ∧ SameK (KK q36 0) (KK q36 0) ∧ G 0 yy3))) ∧ ((!(stepF g i (0 : Int)).snd) = false → (!false) = true ∧ Con Tryd.prog 77 [] [D.v yy8, D.v (Value.int IntKind.i64 (0 : Int)), D.rptr [D.v yy6, D.v yy7, D.sl false false Ty.bool g.B, D.sl false false Ty.bool g.R, D.sl false false Ty.bool g.L]] (D.own 0 0 (runOn g (0 : Int) i).length none) [] [Row.data 3 (Ty.int IntKind.i64) (runOn g (0 : Int) i)] ∧ Value.int IntKind.i64 i = Value.int IntKind.i64 i ∧ Value.int IntKind.i64 (0 : Int) = Value.int IntKind.i64 (0 : Int) ∧ Value.int IntKind.i64 g.h = Value.int IntKind.i64 g.h ∧ Value.int IntKind.i64 g.w = Value.int IntKind.i64 g.w ∧ g.B = g.B ∧ g.R = g.R ∧ g.L = g.L ∧ 1 = 1 ∧ roomy Tryd.prog 50 (ys.length + 1) ∧ decide (IntKind.i64.wrap ((0 : Int) + (1 : Int)) < (2 : Int)) = true ∧ Con Tryd.prog 37 [] [D.agg [D.v yy6, D.v yy7, D.sl false false Ty.bool g.B, D.sl false false Ty.bool g.R, D.sl false false Ty.bool g.L], D.v yy8, D.v (Value.int IntKind.i64 yy2)] (D.tup [D.v (Value.int IntKind.i64 (stepF g i yy2).fst), D.v (Value.bool (stepF g i yy2).snd)]) [] [] ∧ Value.int IntKind.i64 g.h = Value.int IntKind.i64 g.h ∧ Value.int IntKind.i64 g.w = Value.int IntKind.i64 g.w ∧ g.B = g.B ∧ g.R = g.R ∧ g.L = g.L ∧ Value.int IntKind.i64 i = Value.int IntKind.i64 i ∧ Value.int IntKind.i64 yy2 = Value.int IntKind.i64 yy2 ∧ ((stepF g i yy2).snd = true → decide yy5 = false ∧ SameK (KK q36 0) (KK q36 0) ∧ G 0 yy4) ∧ ((stepF g i yy2).snd = false → Con Tryd.prog 37 [] [D.agg [D.v yy6, D.v yy7, D.sl false false Ty.bool g.B, D.sl false false Ty.bool g.R, D.sl false false Ty.bool g.L], D.v yy8, D.v (Value.int IntKind.i64 yy1)] (D.tup [D.v (Value.int IntKind.i64 (stepF g i yy1).fst), D.v (Value.bool (stepF g i yy1).snd)]) [] [] ∧ Value.int IntKind.i64 g.h = Value.int IntKind.i64 g.h ∧ Value.int IntKind.i64 g.w = Value.int IntKind.i64 g.w ∧ g.B = g.B ∧ g.R = g.R ∧ g.L = g.L ∧ Value.int IntKind.i64 i = Value.int IntKind.i64 i ∧ Value.int IntKind.i64 yy1 = Value.int IntKind.i64 yy1 ∧ ((!(stepF g i yy1).snd) = true → decide yy5 = false ∧ SameK (KK q36 0) (KK q36 0) ∧ G 0 yy4) ∧ ((!(stepF g i yy1).snd) = false → (!true) = false ∧ Con Tryd.prog 77 [] [D.v yy8, D.v (Value.int IntKind.i64 yy1), D.rptr [D.v yy6, D.v yy7, D.sl false false Ty.bool g.B, D.sl false false Ty.bool g.R, D.sl false false Ty.bool g.L]] (D.own 0 0 (runOn g yy1 i).length none) [] [Row.data 3 (Ty.int IntKind.i64) (runOn g yy1 i)] ∧ Value.int IntKind.i64 i = Value.int IntKind.i64 i ∧ Value.int IntKind.i64 yy1 = Value.int IntKind.i64 yy1 ∧ Value.int IntKind.i64 g.h = Value.int IntKind.i64 g.h ∧ Value.int IntKind.i64 g.w = Value.int IntKind.i64 g.w ∧ g.B = g.B ∧ g.R = g.R ∧ g.L = g.L ∧ 1 = 1 ∧ roomy Tryd.prog 50 (ys.length + 1 + 1) ∧ decide yy5 = false ∧ SameK (KK q36 0) (KK q36 0) ∧ G 0 (stOf 62 [1, 3, 4, 5, 19, 20] [D.ptr 0 0 0, D.own 1 0 (ys.length + 1 + 1) none, D.fn 77 [D.ptr 0 0 0], D.v (Value.int IntKind.i64 (IntKind.i64.wrap (num + (1 : Int)))), D.v (Value.int IntKind.i64 (↑n : Int)), D.v (Value.int IntKind.i64 (IntKind.i64.wrap (i + (1 : Int))))] [Slot.live (Row.box 46 [D.v yy6, D.v yy7, D.sl false false Ty.bool g.B, D.sl false false Ty.bool g.R, D.sl false false Ty.bool g.L]), Slot.live (Row.nest (NK.mk 50 ((Ty.int IntKind.i64).prod (Ty.bool.prod (Ty.int IntKind.i64).sl)) 2 3 (Ty.int IntKind.i64)) (List.take (ys.length + 1) (List.take ys.length ys ++ [(IntKind.i64.wrap (num + (1 : Int)), (0 : Int) == (1 : Int), List.take (runOn g (0 : Int) i).length (List.drop 0 (runOn g (0 : Int) i)))]) ++ [(IntKind.i64.wrap (num + (1 : Int)), IntKind.i64.wrap ((0 : Int) + (1 : Int)) == (1 : Int), List.take (runOn g yy1 i).length (List.drop 0 (runOn g yy1 i)))]) none)])))))) ∧ (decide (i < (↑n : Int)) = false → R (D.own 0 0 ys.length none, [], [Row.nest (NK.mk 50 ((Ty.int IntKind.i64).prod (Ty.bool.prod (Ty.int IntKind.i64).sl)) 2 3 (Ty.int IntKind.i64)) ys none]))
theorem e36n (g : Gr) (n : Nat) (zs : List (Int × Bool × List Int)) (hc : checkF g = 0) (hn : (n : Int) = g.h * g.w) (m : Nat) : ∀ (i num : Int) (ys : List (Int × Bool × List Int)), 0 ≤ i → i + m = g.h * g.w → 0 ≤ num → num ≤ i → ys.length ≤ 2 * i → ys ++ slotsFrom g m i num = zs → GetsK Tryd.prog Tryd.f36.results.toList [none] (KK q36) 0 (.own 0 0 zs.length none, [], [.nest kS zs none]) 0 (stOf 62 [1,3,4,5,19,20] [.ptr 0 0 0, .own 1 0 ys.length none, .fn 77 [.ptr 0 0 0], .v (.int .i64 num), .v (.int .i64 n), .v (.int .i64 i)] [.live (.box 46 [.v (.int .i64 g.h), .v (.int .i64 g.w), .sl false false .bool g.B, .sl false false .bool g.R, .sl false false .bool g.L]), .live (.nest kS ys none)]) := by
  have hw := hw_in (chk0.1 hc).1 (chk0.1 hc).2.1
  induction m with
  | zero =>
    intro i num ys i0 im n0 ni yl hz
    simp only [slotsFrom, List.append_nil] at hz
    subst hz
    refine gets_vc (flagS [2000057] spL) (fun _ => [1,3,4,5,19,20]) (fun k => if k = 0 then [⟨4000003, 50, SlT⟩] else [⟨4000002, 50, SlT⟩]) 400 (.fork (.go (.t (.fork (.go (.t (.fork (.go (.f (.hd 0))) (.fork (.go (.f (.hd 0))) (.t (.go (.f (.hd 0)))))))) (.fork (.go (.t (.fork (.go (.f (.hd 0))) (.fork (.go (.f (.hd 0))) (.t (.go (.f (.hd 0)))))))) (.t (.go (.t (.fork (.go (.f (.hd 0))) (.fork (.go (.f (.hd 0))) (.f (.go (.f (.hd 0))))))))))))) .stop) (V := vq15 g n i num ys) hmG (fun G R => by kernel_rfl) ?_
    unfold vq15
    try dsimp only
    constructor
    · intro h; rw [decide_eq_true_eq] at h; omega
    · intro _; rfl
  | succ m ih =>
    intro i num ys i0 im n0 ni yl hz
    have c0 := d37 g i 0
    have c1 := d37 g i 1
    have c2 := d37 g i 2
    have c3 := d37 g i 3
    have r0 := d105 g i 0 hc (.inl rfl) i0
    have r1 := d105 g i 1 hc (.inr rfl) i0
    simp only [slotsFrom, beginsB, show (0 : Int) + 2 = 2 by rfl, show (1 : Int) + 2 = 3 by rfl] at hz
    have l1 : ∀ (a : Int × Bool × List Int), ((ys ++ [a]).length : Int) ≤ 2 * (i + 1) := fun a => by simp; omega
    have l2 : ∀ (a b : Int × Bool × List Int), ((ys ++ [a] ++ [b]).length : Int) ≤ 2 * (i + 1) := fun a b => by simp; omega
    refine gets_vc (flagS [2000057] spL) (fun _ => [1,3,4,5,19,20]) (fun k => if k = 0 then [⟨4000003, 50, SlT⟩] else [⟨4000002, 50, SlT⟩]) 400 (.fork (.go (.t (.fork (.go (.t (.fork (.go (.f (.hd 0))) (.fork (.go (.f (.hd 0))) (.t (.go (.f (.hd 0)))))))) (.fork (.go (.t (.fork (.go (.f (.hd 0))) (.fork (.go (.f (.hd 0))) (.t (.go (.f (.hd 0)))))))) (.t (.go (.t (.fork (.go (.f (.hd 0))) (.fork (.go (.f (.hd 0))) (.f (.go (.f (.hd 0))))))))))))) .stop) (V := vq15 g n i num ys) hmG (fun G R => by kernel_rfl) ?_
    unfold vq15
    try dsimp only
    simp only [take_len, show IntKind.i64.wrap (0 + 2) = 2 by decide, show IntKind.i64.wrap (0 + 1) = 1 by decide, show IntKind.i64.wrap (1 + 2) = 3 by decide, show IntKind.i64.wrap (IntKind.i64.wrap (0 + 1) + 1) = 2 by decide, show IntKind.i64.wrap (IntKind.i64.wrap (0 + 1) + 2) = 3 by decide, List.take_length]
    have hA := ih (i + 1) num ys (by omega) (by omega) n0 (by omega) (by omega)
    have hB := ih (i + 1) (num + 1) (ys ++ [(num + 1, false, runOn g 0 i)]) (by omega) (by omega) (by omega) (by omega) (l1 _)
    have hC := ih (i + 1) (num + 1) (ys ++ [(num + 1, true, runOn g 1 i)]) (by omega) (by omega) (by omega) (by omega) (l1 _)
    have hD := ih (i + 1) (num + 1) (ys ++ [(num + 1, false, runOn g 0 i)] ++ [(num + 1, true, runOn g 1 i)]) (by omega) (by omega) (by omega) (by omega) (l2 _ _)
    simp only [List.length_append, List.length_cons, List.length_nil, Nat.zero_add] at hB hC hD
    rcases Bool.eq_false_or_eq_true (stepF g i 0).2 with a0 | a0 <;> rcases Bool.eq_false_or_eq_true (stepF g i 1).2 with a1 | a1 <;> rcases Bool.eq_false_or_eq_true (stepF g i 2).2 with a2 | a2 <;> rcases Bool.eq_false_or_eq_true (stepF g i 3).2 with a3 | a3 <;>
    rw [a0] at c0 <;> rw [a1] at c1 <;> rw [a2] at c2 <;> rw [a3] at c3 <;>
    simp only [a0, a1, a2, a3, Bool.not_true, Bool.not_false, Bool.true_and, Bool.false_and, Bool.and_true, Bool.and_false, if_true, Bool.false_eq_true, if_false, List.nil_append, Bool.or_true, Bool.true_or, Bool.or_false] at hz ⊢ <;>
    (
     simp (disch := omega) only [List.nil_append, take_snoc, take_snD, wrG, sameK_iff, true_and, and_true, decide_eq_true_eq, decide_eq_false_iff_not, ne_eq, not_false_eq_true, Bool.false_eq_true, Bool.true_eq_false, false_implies, true_implies, Ty.dflt, reduceCtorEq, beq_iff_eq, bne_iff_ne, beq_eq_false_iff_ne, bne_eq_false_iff_eq, Bool.not_eq_true, Bool.not_eq_eq_eq_not, Bool.not_true, Bool.not_false, gt_iff_lt, ge_iff_le, Int.not_lt, Int.not_le]
     repeat' (first | with_reducible refine And.intro ?_ ?_ | intro _)
     all_goals first | rfl | omega | assumption | trivial | exact hA hz | exact hB (by rw [← hz]; simp) | exact hC (by rw [← hz]; simp) | exact hD (by rw [← hz]; simp) | exact room86 (by omega) | (exfalso; simp_all; done) | skip)
theorem d36n (g : Gr)  : Con Tryd.prog 36 [] [g.d] ((.own 0 0 (slotsF g).length none)) [] [.nest kS (slotsF g) none] := by
  refine con_vc (how := [none]) (c := q36) (K := (KK q36)) (flagS [2000057] spL) (fun _ => [1,3,4,5,19,20]) (fun k => if k = 0 then [⟨4000003, 50, SlT⟩] else [⟨4000002, 50, SlT⟩]) 400 (.fork .stop (.hd 0)) (V := fun G R => let yy0 := (NK.mk 50 ((Ty.int IntKind.i64).prod (Ty.bool.prod (Ty.int IntKind.i64).sl)) 2 3 (Ty.int IntKind.i64)); Con Tryd.prog 44 [] [D.agg [D.v (Value.int IntKind.i64 g.h), D.v (Value.int IntKind.i64 g.w), D.sl false false Ty.bool g.B, D.sl false false Ty.bool g.R, D.sl false false Ty.bool g.L]] (D.v (Value.int IntKind.i64 (checkF g))) [] [] ∧ Value.int IntKind.i64 g.h = Value.int IntKind.i64 g.h ∧ Value.int IntKind.i64 g.w = Value.int IntKind.i64 g.w ∧ g.B = g.B ∧ g.R = g.R ∧ g.L = g.L ∧ ((checkF g != (0 : Int)) = true → R (D.own 0 0 0 none, [], [Row.nest yy0 [] none])) ∧ ((checkF g != (0 : Int)) = false → SameK (KK q36 0) (KK q36 0) ∧ G 0 (stOf 62 [1, 3, 4, 5, 19, 20] [D.ptr 0 0 0, D.own 1 0 0 none, D.fn 77 [D.ptr 0 0 0], D.v (Value.int IntKind.i64 (0 : Int)), D.v (Value.int IntKind.i64 (↑g.B.length : Int)), D.v (Value.int IntKind.i64 (0 : Int))] [Slot.live (Row.box 46 [D.v (Value.int IntKind.i64 g.h), D.v (Value.int IntKind.i64 g.w), D.sl false false Ty.bool g.B, D.sl false false Ty.bool g.R, D.sl false false Ty.bool g.L]), Slot.live (Row.nest yy0 [] none)]))) hmG Tryd.func36 (by kernel_rfl) (by kernel_rfl) (fun G R => by kernel_rfl) ?_
  try dsimp only
  try dsimp only
  have c := d43 g
  by_cases hc : checkF g = 0
  · have hw := hw_in (chk0.1 hc).1 (chk0.1 hc).2.1
    have sz := size3 (chk0.1 hc).2.2.1
    have e : slotsF g = slotsFrom g (g.h * g.w).toNat 0 0 := if_pos hc
    rw [e]
    have hx := e36n g g.B.length _ hc (by omega) (g.h * g.w).toNat 0 0 [] (by omega) (by omega) (by omega) (by omega) (by simp) (by simp; rfl)
    rw [hc] at c ⊢
    simp (disch := omega) only [wrG, sameK_iff, true_and, and_true, decide_eq_true_eq, decide_eq_false_iff_not, ne_eq, not_false_eq_true, Bool.false_eq_true, Bool.true_eq_false, false_implies, true_implies, Ty.dflt, reduceCtorEq, beq_iff_eq, bne_iff_ne, beq_eq_false_iff_ne, bne_eq_false_iff_eq, Bool.not_eq_true, Bool.not_eq_eq_eq_not, Bool.not_true, Bool.not_false, gt_iff_lt, ge_iff_le, Int.not_lt, Int.not_le]
    repeat' (first | with_reducible refine And.intro ?_ ?_ | intro _)
    all_goals first | rfl | omega | assumption | trivial | (exfalso; simp_all; done) | skip
  · have e : slotsF g = [] := if_neg hc
    rw [e]
    simp (disch := omega) only [wrG, sameK_iff, true_and, and_true, decide_eq_true_eq, decide_eq_false_iff_not, ne_eq, not_false_eq_true, Bool.false_eq_true, Bool.true_eq_false, false_implies, true_implies, Ty.dflt, reduceCtorEq, beq_iff_eq, bne_iff_ne, beq_eq_false_iff_ne, bne_eq_false_iff_eq, Bool.not_eq_true, Bool.not_eq_eq_eq_not, Bool.not_true, Bool.not_false, gt_iff_lt, ge_iff_le, Int.not_lt, Int.not_le]
    repeat' (first | with_reducible refine And.intro ?_ ?_ | intro _)
    all_goals first | rfl | omega | assumption | trivial | (exfalso; simp_all; done) | skip
def vq16 (A : List (Int × Bool × List Int)) (B : List (Int × Bool × List Int)) (i : Int) (k : Int) (G : Nat → St → Prop) (R : D × List (Option Row) × List Row → Prop) : Prop := let yy0 := ((Ty.int IntKind.i64).prod (Ty.bool.prod (Ty.int IntKind.i64).sl)); let yy1 := (List.getD (A.getD i.toNat yy0.dflt).snd.snd k.toNat (Ty.int IntKind.i64).dflt != List.getD (B.getD i.toNat yy0.dflt).snd.snd k.toNat (Ty.int IntKind.i64).dflt); let yy2 := (↑(List.length (A.getD i.toNat yy0.dflt).snd.snd) : Int); (0 : Int) ≤ i ∧ i < (↑A.length : Int) ∧ (decide (k < yy2) = true → (0 : Int) ≤ i ∧ i < (↑A.length : Int) ∧ (0 : Int) ≤ k ∧ k < yy2 ∧ (0 : Int) ≤ i ∧ i < (↑B.length : Int) ∧ (0 : Int) ≤ k ∧ k < (↑(List.length (B.getD i.toNat yy0.dflt).snd.snd) : Int) ∧ (yy1 = true → R (D.v (Value.bool false), [], [])) ∧ (yy1 = false → SameK (KK q39 1) (KK q39 1) ∧ G 1 (stOf 84 [0, 1, 5, 6] [D.sl false false yy0 A, D.sl false false yy0 B, D.v (Value.int IntKind.i64 i), D.v (Value.int IntKind.i64 (IntKind.i64.wrap (k + (1 : Int))))] []))) ∧ (decide (k < yy2) = false → SameK (KK q39 0) (KK q39 0) ∧ G 0 (stOf 84 [0, 1, 5] [D.sl false false yy0 A, D.sl false false yy0 B, D.v (Value.int IntKind.i64 (IntKind.i64.wrap (i + (1 : Int))))] []))
theorem e39b (A B : List (Int × Bool × List Int)) (i : Int) (a b : Int × Bool × List Int) (i0 : 0 ≤ i) (i1 : i < A.length) (i2 : i < B.length) (hAl : A.length ≤ 5864062014805) (ha : A.getD i.toNat (0, false, []) = a) (hb : B.getD i.toNat (0, false, []) = b) (hl : a.2.2.length = b.2.2.length) (hal : a.2.2.length ≤ 17592186044416) (rest : Bool) (hx : GetsK Tryd.prog Tryd.f39.results.toList [none] (KK q39) 0 (.v (.bool rest), [], []) 0 (stOf 84 [0,1,5] [slS A, slS B, .v (.int .i64 (i + 1))] [])) (z : Nat) : ∀ (k : Int), 0 ≤ k → k + z = a.2.2.length → ∀ r, r = (decide (a.2.2.drop k.toNat = b.2.2.drop k.toNat) && rest) → GetsK Tryd.prog Tryd.f39.results.toList [none] (KK q39) 0 (.v (.bool r), [], []) 1 (stOf 84 [0,1,5,6] [slS A, slS B, .v (.int .i64 i), .v (.int .i64 k)] []) := by
  have hii : IntKind.i64.wrap (i + 1) = i + 1 := wrG (by omega) (by omega)
  induction z with
  | zero =>
    intro k k0 hk r hr
    rw [List.drop_eq_nil_of_le (by omega), List.drop_eq_nil_of_le (by omega), decide_eq_true rfl, Bool.true_and] at hr
    rw [hr]
    refine gets_vc spO (fun k => [[0,1,5],[0,1,5,6]].getD k []) (fun _ => []) 400 (.fork (.fork .stop (.hd 1)) (.hd 0)) (V := vq16 A B i k) hmG (fun G R => by kernel_rfl) ?_
    unfold vq16
    try dsimp only
    simp only [Ty.dflt, hii, ha, hb]
    simp (disch := omega) only [wrG, sameK_iff, true_and, and_true, decide_eq_true_eq, decide_eq_false_iff_not, ne_eq, not_false_eq_true, Bool.false_eq_true, Bool.true_eq_false, false_implies, true_implies, Ty.dflt, reduceCtorEq, beq_iff_eq, bne_iff_ne, beq_eq_false_iff_ne, bne_eq_false_iff_eq, Bool.not_eq_true, Bool.not_eq_eq_eq_not, Bool.not_true, Bool.not_false, gt_iff_lt, ge_iff_le, Int.not_lt, Int.not_le]
    repeat' (first | with_reducible refine And.intro ?_ ?_ | intro _)
    all_goals first | rfl | omega | assumption | trivial | (exfalso; simp_all; done) | (exfalso; omega) | skip
  | succ z ih =>
    intro k k0 hk r hr
    rw [drop_at (xs := a.2.2) (i := k) (0 : Int) k0 (by omega), drop_at (xs := b.2.2) (i := k) (0 : Int) k0 (by omega)] at hr
    have hk1 : IntKind.i64.wrap (k + 1) = k + 1 := wrG (by omega) (by omega)
    have h1 := ih (k + 1) (by omega) (by omega) _ rfl
    refine gets_vc spO (fun k => [[0,1,5],[0,1,5,6]].getD k []) (fun _ => []) 400 (.fork (.fork .stop (.hd 1)) (.hd 0)) (V := vq16 A B i k) hmG (fun G R => by kernel_rfl) ?_
    unfold vq16
    try dsimp only
    simp only [Ty.dflt, hk1, ha, hb]
    by_cases h : a.2.2.getD k.toNat 0 = b.2.2.getD k.toNat 0
    · have hr : r = (decide (a.2.2.drop (k + 1).toNat = b.2.2.drop (k + 1).toNat) && rest) := by
        rw [hr]
        simp only [List.cons.injEq, h, true_and]
      rw [← hr] at h1
      have e1 : (a.2.2.getD k.toNat 0 != b.2.2.getD k.toNat 0) = false := by rw [h]; simp
      simp only [e1]
      simp (disch := omega) only [wrG, sameK_iff, true_and, and_true, decide_eq_true_eq, decide_eq_false_iff_not, ne_eq, not_false_eq_true, Bool.false_eq_true, Bool.true_eq_false, false_implies, true_implies, Ty.dflt, reduceCtorEq, beq_iff_eq, bne_iff_ne, beq_eq_false_iff_ne, bne_eq_false_iff_eq, Bool.not_eq_true, Bool.not_eq_eq_eq_not, Bool.not_true, Bool.not_false, gt_iff_lt, ge_iff_le, Int.not_lt, Int.not_le]
      repeat' (first | with_reducible refine And.intro ?_ ?_ | intro _)
      all_goals first | rfl | omega | assumption | trivial | (exfalso; simp_all; done) | (exfalso; omega) | skip
    · have hr : r = false := by
        rw [hr, decide_eq_false (fun e => h (by rw [List.cons.injEq] at e; exact e.1))]
        rfl
      have e1 : (a.2.2.getD k.toNat 0 != b.2.2.getD k.toNat 0) = true := by rw [bne_iff_ne]; exact h
      rw [hr]
      simp only [e1]
      simp (disch := omega) only [wrG, sameK_iff, true_and, and_true, decide_eq_true_eq, decide_eq_false_iff_not, ne_eq, not_false_eq_true, Bool.false_eq_true, Bool.true_eq_false, false_implies, true_implies, Ty.dflt, reduceCtorEq, beq_iff_eq, bne_iff_ne, beq_eq_false_iff_ne, bne_eq_false_iff_eq, Bool.not_eq_true, Bool.not_eq_eq_eq_not, Bool.not_true, Bool.not_false, gt_iff_lt, ge_iff_le, Int.not_lt, Int.not_le]
      repeat' (first | with_reducible refine And.intro ?_ ?_ | intro _)
      all_goals first | rfl | omega | assumption | trivial | (exfalso; simp_all; done) | (exfalso; omega) | skip
def vq17 (A : List (Int × Bool × List Int)) (B : List (Int × Bool × List Int)) (i : Int) (G : Nat → St → Prop) (R : D × List (Option Row) × List Row → Prop) : Prop := let yy0 := ((Ty.int IntKind.i64).prod (Ty.bool.prod (Ty.int IntKind.i64).sl)); let yy1 := ((↑(List.length (A.getD i.toNat yy0.dflt).snd.snd) : Int) != (↑(List.length (B.getD i.toNat yy0.dflt).snd.snd) : Int)); let yy2 := (!(A.getD i.toNat yy0.dflt).snd.fst == (B.getD i.toNat yy0.dflt).snd.fst); (decide (i < (↑A.length : Int)) = true → (0 : Int) ≤ i ∧ i < (↑A.length : Int) ∧ (0 : Int) ≤ i ∧ i < (↑B.length : Int) ∧ (((A.getD i.toNat yy0.dflt).fst != (B.getD i.toNat yy0.dflt).fst) = true → true = true ∧ true = true ∧ R (D.v (Value.bool false), [], [])) ∧ (((A.getD i.toNat yy0.dflt).fst != (B.getD i.toNat yy0.dflt).fst) = false → (0 : Int) ≤ i ∧ i < (↑A.length : Int) ∧ (0 : Int) ≤ i ∧ i < (↑B.length : Int) ∧ (yy2 = true → true = true ∧ R (D.v (Value.bool false), [], [])) ∧ (yy2 = false → (0 : Int) ≤ i ∧ i < (↑A.length : Int) ∧ (0 : Int) ≤ i ∧ i < (↑B.length : Int) ∧ (yy1 = true → R (D.v (Value.bool false), [], [])) ∧ (yy1 = false → SameK (KK q39 1) (KK q39 1) ∧ G 1 (stOf 84 [0, 1, 5, 6] [D.sl false false yy0 A, D.sl false false yy0 B, D.v (Value.int IntKind.i64 i), D.v (Value.int IntKind.i64 (0 : Int))] []))))) ∧ (decide (i < (↑A.length : Int)) = false → R (D.v (Value.bool true), [], []))
theorem e39 (A B : List (Int × Bool × List Int)) (hl : A.length = B.length) (hAl : A.length ≤ 5864062014805) (hw : ∀ s ∈ A, s.2.2.length ≤ 17592186044416) (z : Nat) : ∀ (i : Int), 0 ≤ i → i + z = A.length → ∀ r, r = decide (A.drop i.toNat = B.drop i.toNat) → GetsK Tryd.prog Tryd.f39.results.toList [none] (KK q39) 0 (.v (.bool r), [], []) 0 (stOf 84 [0,1,5] [slS A, slS B, .v (.int .i64 i)] []) := by
  induction z with
  | zero =>
    intro i i0 hi r hr
    rw [List.drop_eq_nil_of_le (by omega), List.drop_eq_nil_of_le (by omega)] at hr
    have hr : r = true := by rw [hr]; rfl
    rw [hr]
    refine gets_vc spO (fun k => [[0,1,5],[0,1,5,6]].getD k []) (fun _ => []) 400 (.fork (.fork (.t (.t .stop)) (.fork (.t .stop) (.fork .stop (.hd 1)))) .stop) (V := vq17 A B i) hmG (fun G R => by kernel_rfl) ?_
    unfold vq17
    try dsimp only
    simp (disch := omega) only [wrG, sameK_iff, true_and, and_true, decide_eq_true_eq, decide_eq_false_iff_not, ne_eq, not_false_eq_true, Bool.false_eq_true, Bool.true_eq_false, false_implies, true_implies, Ty.dflt, reduceCtorEq, beq_iff_eq, bne_iff_ne, beq_eq_false_iff_ne, bne_eq_false_iff_eq, Bool.not_eq_true, Bool.not_eq_eq_eq_not, Bool.not_true, Bool.not_false, gt_iff_lt, ge_iff_le, Int.not_lt, Int.not_le]
    repeat' (first | with_reducible refine And.intro ?_ ?_ | intro _)
    all_goals first | rfl | omega | assumption | trivial | (exfalso; simp_all; done) | (exfalso; omega) | skip
  | succ z ih =>
    intro i i0 hi r hr
    have hsw := hw _ (getD_inD (d := (0, false, [])) (k := i.toNat) (l := A) (by omega))
    rw [drop_at (xs := A) (i := i) (0, false, []) i0 (by omega), drop_at (xs := B) (i := i) (0, false, []) i0 (by omega)] at hr
    obtain ⟨a, ha⟩ : ∃ a, A.getD i.toNat (0, false, []) = a := ⟨_, rfl⟩
    obtain ⟨b, hb⟩ : ∃ b, B.getD i.toNat (0, false, []) = b := ⟨_, rfl⟩
    rw [ha] at hsw
    rw [ha, hb] at hr
    have h1 := ih (i + 1) (by omega) (by omega) _ rfl
    refine gets_vc spO (fun k => [[0,1,5],[0,1,5,6]].getD k []) (fun _ => []) 400 (.fork (.fork (.t (.t .stop)) (.fork (.t .stop) (.fork .stop (.hd 1)))) .stop) (V := vq17 A B i) hmG (fun G R => by kernel_rfl) ?_
    unfold vq17
    try dsimp only
    simp only [Ty.dflt, ha, hb]
    by_cases hd : a.1 = b.1 ∧ a.2.1 = b.2.1 ∧ a.2.2.length = b.2.2.length
    · have h2 := e39b A B i a b i0 (by omega) (by omega) hAl ha hb hd.2.2 hsw _ h1 a.2.2.length 0 (by omega) (by omega) _ rfl
      have hr : r = (decide (a.2.2.drop (0 : Int).toNat = b.2.2.drop (0 : Int).toNat) && decide (A.drop (i + 1).toNat = B.drop (i + 1).toNat)) := by
        rw [hr]
        have e : (a = b) = (a.2.2 = b.2.2) := by
          obtain ⟨a1, a2, a3⟩ := a
          obtain ⟨b1, b2, b3⟩ := b
          simp only at hd ⊢
          simp only [Prod.mk.injEq, hd.1, hd.2.1, true_and]
        simp only [List.cons.injEq, e, show (0 : Int).toNat = 0 from rfl, List.drop_zero, Bool.decide_and]
      rw [← hr] at h2
      have e1 : (a.1 != b.1) = false := by rw [hd.1]; simp
      have e2 : (!(a.2.1 == b.2.1)) = false := by rw [hd.2.1]; simp
      have e3 : ((a.2.2.length : Int) != (b.2.2.length : Int)) = false := by rw [hd.2.2]; simp
      simp only [e1, e2, e3]
      simp (disch := omega) only [wrG, sameK_iff, true_and, and_true, decide_eq_true_eq, decide_eq_false_iff_not, ne_eq, not_false_eq_true, Bool.false_eq_true, Bool.true_eq_false, false_implies, true_implies, Ty.dflt, reduceCtorEq, beq_iff_eq, bne_iff_ne, beq_eq_false_iff_ne, bne_eq_false_iff_eq, Bool.not_eq_true, Bool.not_eq_eq_eq_not, Bool.not_true, Bool.not_false, gt_iff_lt, ge_iff_le, Int.not_lt, Int.not_le]
      repeat' (first | with_reducible refine And.intro ?_ ?_ | intro _)
      all_goals first | rfl | omega | assumption | trivial | (exfalso; simp_all; done) | (exfalso; omega) | skip
    · have hr : r = false := by
        rw [hr]
        refine decide_eq_false fun e => hd ?_
        rw [List.cons.injEq] at e
        rw [e.1]
        exact ⟨rfl, rfl, rfl⟩
      rw [hr]
      by_cases d1 : a.1 = b.1
      · have e1 : (a.1 != b.1) = false := by rw [d1]; simp
        by_cases d2 : a.2.1 = b.2.1
        · have e2 : (!(a.2.1 == b.2.1)) = false := by rw [d2]; simp
          have e3 : ((a.2.2.length : Int) != (b.2.2.length : Int)) = true := by
            rw [bne_iff_ne]
            intro e
            exact hd ⟨d1, d2, by omega⟩
          simp only [e1, e2, e3]
          simp (disch := omega) only [wrG, sameK_iff, true_and, and_true, decide_eq_true_eq, decide_eq_false_iff_not, ne_eq, not_false_eq_true, Bool.false_eq_true, Bool.true_eq_false, false_implies, true_implies, Ty.dflt, reduceCtorEq, beq_iff_eq, bne_iff_ne, beq_eq_false_iff_ne, bne_eq_false_iff_eq, Bool.not_eq_true, Bool.not_eq_eq_eq_not, Bool.not_true, Bool.not_false, gt_iff_lt, ge_iff_le, Int.not_lt, Int.not_le]
          repeat' (first | with_reducible refine And.intro ?_ ?_ | intro _)
          all_goals first | rfl | omega | assumption | trivial | (exfalso; simp_all; done) | (exfalso; omega) | skip
        · have e2 : (!(a.2.1 == b.2.1)) = true := by
            rw [Bool.not_eq_true', beq_eq_false_iff_ne]
            exact d2
          simp only [e1, e2]
          simp (disch := omega) only [wrG, sameK_iff, true_and, and_true, decide_eq_true_eq, decide_eq_false_iff_not, ne_eq, not_false_eq_true, Bool.false_eq_true, Bool.true_eq_false, false_implies, true_implies, Ty.dflt, reduceCtorEq, beq_iff_eq, bne_iff_ne, beq_eq_false_iff_ne, bne_eq_false_iff_eq, Bool.not_eq_true, Bool.not_eq_eq_eq_not, Bool.not_true, Bool.not_false, gt_iff_lt, ge_iff_le, Int.not_lt, Int.not_le]
          repeat' (first | with_reducible refine And.intro ?_ ?_ | intro _)
          all_goals first | rfl | omega | assumption | trivial | (exfalso; simp_all; done) | (exfalso; omega) | skip
      · have e1 : (a.1 != b.1) = true := by rw [bne_iff_ne]; exact d1
        simp only [e1]
        simp (disch := omega) only [wrG, sameK_iff, true_and, and_true, decide_eq_true_eq, decide_eq_false_iff_not, ne_eq, not_false_eq_true, Bool.false_eq_true, Bool.true_eq_false, false_implies, true_implies, Ty.dflt, reduceCtorEq, beq_iff_eq, bne_iff_ne, beq_eq_false_iff_ne, bne_eq_false_iff_eq, Bool.not_eq_true, Bool.not_eq_eq_eq_not, Bool.not_true, Bool.not_false, gt_iff_lt, ge_iff_le, Int.not_lt, Int.not_le]
        repeat' (first | with_reducible refine And.intro ?_ ?_ | intro _)
        all_goals first | rfl | omega | assumption | trivial | (exfalso; simp_all; done) | (exfalso; omega) | skip
def vq18 (A : List (Int × Int)) (B : List (Int × Int)) (i : Int) (G : Nat → St → Prop) (R : D × List (Option Row) × List Row → Prop) : Prop := let yy0 := ((Ty.int IntKind.i64).prod (Ty.int IntKind.i64)); (decide (i < (↑A.length : Int)) = true → (0 : Int) ≤ i ∧ i < (↑A.length : Int) ∧ (0 : Int) ≤ i ∧ i < (↑B.length : Int) ∧ (((A.getD i.toNat yy0.dflt).fst != (B.getD i.toNat yy0.dflt).fst) = true → true = true ∧ R (D.v (Value.bool false), [], [])) ∧ (((A.getD i.toNat yy0.dflt).fst != (B.getD i.toNat yy0.dflt).fst) = false → (0 : Int) ≤ i ∧ i < (↑A.length : Int) ∧ (0 : Int) ≤ i ∧ i < (↑B.length : Int) ∧ (((A.getD i.toNat yy0.dflt).snd != (B.getD i.toNat yy0.dflt).snd) = true → R (D.v (Value.bool false), [], [])) ∧ (((A.getD i.toNat yy0.dflt).snd != (B.getD i.toNat yy0.dflt).snd) = false → SameK (KK q42 0) (KK q42 0) ∧ G 0 (stOf 41 [0, 1, 5] [D.sl false false yy0 A, D.sl false false yy0 B, D.v (Value.int IntKind.i64 (IntKind.i64.wrap (i + (1 : Int))))] [])))) ∧ (decide (i < (↑A.length : Int)) = false → R (D.v (Value.bool true), [], []))
theorem e42 (A B : List (Int × Int)) (hl : A.length = B.length) (hAl : A.length ≤ 5864062014805) (z : Nat) : ∀ (i : Int), 0 ≤ i → i + z = A.length → ∀ r, r = decide (A.drop i.toNat = B.drop i.toNat) → GetsK Tryd.prog Tryd.f42.results.toList [none] (KK q42) 0 (.v (.bool r), [], []) 0 (stOf 41 [0,1,5] [slE A, slE B, .v (.int .i64 i)] []) := by
  induction z with
  | zero =>
    intro i i0 hi r hr
    rw [List.drop_eq_nil_of_le (by omega), List.drop_eq_nil_of_le (by omega)] at hr
    have hr : r = true := by rw [hr]; rfl
    rw [hr]
    refine gets_vc spO (fun k => [0,1,5]) (fun _ => []) 400 (.fork (.fork (.t .stop) (.fork .stop (.hd 0))) .stop) (V := vq18 A B i) hmG (fun G R => by kernel_rfl) ?_
    unfold vq18
    try dsimp only
    simp (disch := omega) only [wrG, sameK_iff, true_and, and_true, decide_eq_true_eq, decide_eq_false_iff_not, ne_eq, not_false_eq_true, Bool.false_eq_true, Bool.true_eq_false, false_implies, true_implies, Ty.dflt, reduceCtorEq, beq_iff_eq, bne_iff_ne, beq_eq_false_iff_ne, bne_eq_false_iff_eq, Bool.not_eq_true, Bool.not_eq_eq_eq_not, Bool.not_true, Bool.not_false, gt_iff_lt, ge_iff_le, Int.not_lt, Int.not_le]
    repeat' (first | with_reducible refine And.intro ?_ ?_ | intro _)
    all_goals first | rfl | omega | assumption | trivial | (exfalso; simp_all; done) | (exfalso; omega) | skip
  | succ z ih =>
    intro i i0 hi r hr
    have hii : IntKind.i64.wrap (i + 1) = i + 1 := wrG (by omega) (by omega)
    rw [drop_at (xs := A) (i := i) (0, 0) i0 (by omega), drop_at (xs := B) (i := i) (0, 0) i0 (by omega)] at hr
    obtain ⟨a, ha⟩ : ∃ a, A.getD i.toNat (0, 0) = a := ⟨_, rfl⟩
    obtain ⟨b, hb⟩ : ∃ b, B.getD i.toNat (0, 0) = b := ⟨_, rfl⟩
    rw [ha, hb] at hr
    have h1 := ih (i + 1) (by omega) (by omega) _ rfl
    refine gets_vc spO (fun k => [0,1,5]) (fun _ => []) 400 (.fork (.fork (.t .stop) (.fork .stop (.hd 0))) .stop) (V := vq18 A B i) hmG (fun G R => by kernel_rfl) ?_
    unfold vq18
    try dsimp only
    simp only [Ty.dflt, ha, hb, hii]
    by_cases hd : a = b
    · have hr : r = decide (A.drop (i + 1).toNat = B.drop (i + 1).toNat) := by
        rw [hr]
        simp only [List.cons.injEq, hd, true_and]
      rw [← hr] at h1
      have e1 : (a.1 != b.1) = false := by rw [hd]; simp
      have e2 : (a.2 != b.2) = false := by rw [hd]; simp
      simp only [e1, e2]
      simp (disch := omega) only [wrG, sameK_iff, true_and, and_true, decide_eq_true_eq, decide_eq_false_iff_not, ne_eq, not_false_eq_true, Bool.false_eq_true, Bool.true_eq_false, false_implies, true_implies, Ty.dflt, reduceCtorEq, beq_iff_eq, bne_iff_ne, beq_eq_false_iff_ne, bne_eq_false_iff_eq, Bool.not_eq_true, Bool.not_eq_eq_eq_not, Bool.not_true, Bool.not_false, gt_iff_lt, ge_iff_le, Int.not_lt, Int.not_le]
      repeat' (first | with_reducible refine And.intro ?_ ?_ | intro _)
      all_goals first | rfl | omega | assumption | trivial | (exfalso; simp_all; done) | (exfalso; omega) | skip
    · have hr : r = false := by
        rw [hr]
        refine decide_eq_false fun e => hd ?_
        rw [List.cons.injEq] at e
        exact e.1
      rw [hr]
      by_cases d1 : a.1 = b.1
      · have e1 : (a.1 != b.1) = false := by rw [d1]; simp
        have e2 : (a.2 != b.2) = true := by
          rw [bne_iff_ne]
          intro e
          exact hd (Prod.ext d1 e)
        simp only [e1, e2]
        simp (disch := omega) only [wrG, sameK_iff, true_and, and_true, decide_eq_true_eq, decide_eq_false_iff_not, ne_eq, not_false_eq_true, Bool.false_eq_true, Bool.true_eq_false, false_implies, true_implies, Ty.dflt, reduceCtorEq, beq_iff_eq, bne_iff_ne, beq_eq_false_iff_ne, bne_eq_false_iff_eq, Bool.not_eq_true, Bool.not_eq_eq_eq_not, Bool.not_true, Bool.not_false, gt_iff_lt, ge_iff_le, Int.not_lt, Int.not_le]
        repeat' (first | with_reducible refine And.intro ?_ ?_ | intro _)
        all_goals first | rfl | omega | assumption | trivial | (exfalso; simp_all; done) | (exfalso; omega) | skip
      · have e1 : (a.1 != b.1) = true := by rw [bne_iff_ne]; exact d1
        simp only [e1]
        simp (disch := omega) only [wrG, sameK_iff, true_and, and_true, decide_eq_true_eq, decide_eq_false_iff_not, ne_eq, not_false_eq_true, Bool.false_eq_true, Bool.true_eq_false, false_implies, true_implies, Ty.dflt, reduceCtorEq, beq_iff_eq, bne_iff_ne, beq_eq_false_iff_ne, bne_eq_false_iff_eq, Bool.not_eq_true, Bool.not_eq_eq_eq_not, Bool.not_true, Bool.not_false, gt_iff_lt, ge_iff_le, Int.not_lt, Int.not_le]
        repeat' (first | with_reducible refine And.intro ?_ ?_ | intro _)
        all_goals first | rfl | omega | assumption | trivial | (exfalso; simp_all; done) | (exfalso; omega) | skip
theorem d39D (A B : List (Int × Bool × List Int)) (hAl : A.length ≤ 5864062014805) (hw : ∀ s ∈ A, s.2.2.length ≤ 17592186044416) : Con Tryd.prog 39 [] [slS A, slS B] (.v (.bool (decide (A = B)))) [] [] := by
  refine con_vc (how := [none]) (c := q39) (K := (KK q39)) spO (fun k => [[0,1,5],[0,1,5,6]].getD k []) (fun _ => []) 400 (.fork .stop (.hd 0)) (V := fun G R => (((↑A.length : Int) != (↑B.length : Int)) = true → R (D.v (Value.bool false), [], [])) ∧ (((↑A.length : Int) != (↑B.length : Int)) = false → SameK (KK q39 0) (KK q39 0) ∧ G 0 (stOf 84 [0, 1, 5] [D.sl false false ((Ty.int IntKind.i64).prod (Ty.bool.prod (Ty.int IntKind.i64).sl)) A, D.sl false false ((Ty.int IntKind.i64).prod (Ty.bool.prod (Ty.int IntKind.i64).sl)) B, D.v (Value.int IntKind.i64 (0 : Int))] []))) hmG Tryd.func39 (by kernel_rfl) (by kernel_rfl) (fun G R => by kernel_rfl) ?_
  try dsimp only
  by_cases hl : A.length = B.length
  · have hx := e39 A B hl hAl hw A.length 0 (by omega) (by omega) _ rfl
    simp only [show (0 : Int).toNat = 0 by rfl, List.drop_zero] at hx
    have hll : ((A.length : Int) != (B.length : Int)) = false := by rw [hl]; simp
    simp only [hll]
    simp (disch := omega) only [wrG, sameK_iff, true_and, and_true, decide_eq_true_eq, decide_eq_false_iff_not, ne_eq, not_false_eq_true, Bool.false_eq_true, Bool.true_eq_false, false_implies, true_implies, Ty.dflt, reduceCtorEq, beq_iff_eq, bne_iff_ne, beq_eq_false_iff_ne, bne_eq_false_iff_eq, Bool.not_eq_true, Bool.not_eq_eq_eq_not, Bool.not_true, Bool.not_false, gt_iff_lt, ge_iff_le, Int.not_lt, Int.not_le]
    repeat' (first | with_reducible refine And.intro ?_ ?_ | intro _)
    all_goals first | rfl | omega | assumption | trivial | (exfalso; simp_all; done) | (exfalso; omega) | skip
  · have e : decide (A = B) = false := decide_eq_false (fun q => hl (by rw [q]))
    have hll : ((A.length : Int) != (B.length : Int)) = true := by rw [bne_iff_ne]; omega
    rw [e]
    simp only [hll]
    simp (disch := omega) only [wrG, sameK_iff, true_and, and_true, decide_eq_true_eq, decide_eq_false_iff_not, ne_eq, not_false_eq_true, Bool.false_eq_true, Bool.true_eq_false, false_implies, true_implies, Ty.dflt, reduceCtorEq, beq_iff_eq, bne_iff_ne, beq_eq_false_iff_ne, bne_eq_false_iff_eq, Bool.not_eq_true, Bool.not_eq_eq_eq_not, Bool.not_true, Bool.not_false, gt_iff_lt, ge_iff_le, Int.not_lt, Int.not_le]
    repeat' (first | with_reducible refine And.intro ?_ ?_ | intro _)
    all_goals first | rfl | omega | assumption | trivial | (exfalso; simp_all; done) | (exfalso; omega) | skip
theorem d42D (A B : List (Int × Int)) (hAl : A.length ≤ 5864062014805) : Con Tryd.prog 42 [] [slE A, slE B] (.v (.bool (decide (A = B)))) [] [] := by
  refine con_vc (how := [none]) (c := q42) (K := (KK q42)) spO (fun k => [0,1,5]) (fun _ => []) 400 (.fork .stop (.hd 0)) (V := fun G R => (((↑A.length : Int) != (↑B.length : Int)) = true → R (D.v (Value.bool false), [], [])) ∧ (((↑A.length : Int) != (↑B.length : Int)) = false → SameK (KK q42 0) (KK q42 0) ∧ G 0 (stOf 41 [0, 1, 5] [D.sl false false ((Ty.int IntKind.i64).prod (Ty.int IntKind.i64)) A, D.sl false false ((Ty.int IntKind.i64).prod (Ty.int IntKind.i64)) B, D.v (Value.int IntKind.i64 (0 : Int))] []))) hmG Tryd.func42 (by kernel_rfl) (by kernel_rfl) (fun G R => by kernel_rfl) ?_
  try dsimp only
  by_cases hl : A.length = B.length
  · have hx := e42 A B hl hAl A.length 0 (by omega) (by omega) _ rfl
    simp only [show (0 : Int).toNat = 0 by rfl, List.drop_zero] at hx
    have hll : ((A.length : Int) != (B.length : Int)) = false := by rw [hl]; simp
    simp only [hll]
    simp (disch := omega) only [wrG, sameK_iff, true_and, and_true, decide_eq_true_eq, decide_eq_false_iff_not, ne_eq, not_false_eq_true, Bool.false_eq_true, Bool.true_eq_false, false_implies, true_implies, Ty.dflt, reduceCtorEq, beq_iff_eq, bne_iff_ne, beq_eq_false_iff_ne, bne_eq_false_iff_eq, Bool.not_eq_true, Bool.not_eq_eq_eq_not, Bool.not_true, Bool.not_false, gt_iff_lt, ge_iff_le, Int.not_lt, Int.not_le]
    repeat' (first | with_reducible refine And.intro ?_ ?_ | intro _)
    all_goals first | rfl | omega | assumption | trivial | (exfalso; simp_all; done) | (exfalso; omega) | skip
  · have e : decide (A = B) = false := decide_eq_false (fun q => hl (by rw [q]))
    have hll : ((A.length : Int) != (B.length : Int)) = true := by rw [bne_iff_ne]; omega
    rw [e]
    simp only [hll]
    simp (disch := omega) only [wrG, sameK_iff, true_and, and_true, decide_eq_true_eq, decide_eq_false_iff_not, ne_eq, not_false_eq_true, Bool.false_eq_true, Bool.true_eq_false, false_implies, true_implies, Ty.dflt, reduceCtorEq, beq_iff_eq, bne_iff_ne, beq_eq_false_iff_ne, bne_eq_false_iff_eq, Bool.not_eq_true, Bool.not_eq_eq_eq_not, Bool.not_true, Bool.not_false, gt_iff_lt, ge_iff_le, Int.not_lt, Int.not_le]
    repeat' (first | with_reducible refine And.intro ?_ ?_ | intro _)
    all_goals first | rfl | omega | assumption | trivial | (exfalso; simp_all; done) | (exfalso; omega) | skip
end Go.Proofs.YtnakmganodkliaaDoorAm
namespace Go.Proofs.YtnakmganodkliaaDoorAm
open Go
theorem getD_set_gen' {α : Type} (d : α) (m : List α) (c : Nat) (v : α) (j : Nat) : (m.set c v).getD j d = if c = j ∧ c < m.length then v else m.getD j d := by
  simp only [List.getD_eq_getElem?_getD, List.getElem?_set]
  by_cases h : c = j
  · subst h
    by_cases h2 : c < m.length <;> simp [h2]
  · simp [h]
abbrev Slt' := Int × Bool × List Int
def cellsAt (N : List Slt') (j : Nat) : List Int := (N.getD j (0, false, [])).2.2
structure OverI (S N : List Slt') (i k : Nat) : Prop where
  len : N.length = S.length
  lens : ∀ j : Nat, j < S.length → (cellsAt N j).length = (cellsAt S j).length
  neg : ∀ j : Nat, j < i → ∀ t : Nat, t < (cellsAt N j).length → (cellsAt N j).getD t 0 = -5 - (j : Int)
  cur : ∀ t : Nat, t < k → (cellsAt N i).getD t 0 = -5 - (i : Int)
theorem over_new (S : List Slt') : OverI S S 0 0 := ⟨rfl, fun _ _ => rfl, fun j h => by omega, fun t h => by omega⟩
theorem OverI.done {S N : List Slt'} {i : Nat} (q : OverI S N i (cellsAt N i).length) : OverI S N (i + 1) 0 := by
  refine ⟨q.len, q.lens, fun j hj t ht => ?_, fun t h => by omega⟩
  by_cases e : j = i
  · subst e
    exact q.cur t ht
  · exact q.neg j (by omega) t ht
theorem OverI.step {S N : List Slt'} {i k : Nat} {a : Int} {b : Bool} (q : OverI S N i k) (hi : i < N.length) (hk : k < (cellsAt N i).length) : OverI S (N.set i (a, b, (cellsAt N i).set k (-5 - (i : Int)))) i (k + 1) := by
  have hs : ∀ j : Nat, cellsAt (N.set i (a, b, (cellsAt N i).set k (-5 - (i : Int)))) j = if i = j then (cellsAt N i).set k (-5 - (i : Int)) else cellsAt N j := fun j => by
    show ((N.set i (a, b, (cellsAt N i).set k (-5 - (i : Int)))).getD j (0, false, [])).2.2 = _
    rw [getD_set_gen']
    by_cases e : i = j
    · rw [if_pos ⟨e, hi⟩, if_pos e]
    · rw [if_neg (fun h => e h.1), if_neg e]
      rfl
  refine ⟨by rw [List.length_set]; exact q.len, fun j hj => ?_, fun j hj t ht => ?_, fun t ht => ?_⟩
  · rw [hs]
    split
    · rename_i e
      rw [List.length_set, e]
      exact q.lens j hj
    · exact q.lens j hj
  · rw [hs, if_neg (by omega)] at ht ⊢
    exact q.neg j hj t ht
  · rw [hs, if_pos rfl, getD_set_gen']
    by_cases e : k = t
    · rw [if_pos ⟨e, hk⟩]
    · rw [if_neg (fun h => e h.1)]
      exact q.cur t (by omega)
theorem set_selfD {α : Type} (d : α) (l : List α) (i : Nat) : l.set i (l.getD i d) = l := by
  apply List.ext_getElem?
  intro j
  rw [List.getElem?_set]
  by_cases e : i = j
  · subst e
    rw [if_pos rfl]
    by_cases h : i < l.length
    · rw [if_pos h, List.getD_eq_getElem?_getD, List.getElem?_eq_getElem h]
      rfl
    · rw [if_neg h, List.getElem?_eq_none (by omega)]
  · rw [if_neg e]
theorem slots_few {g : Gr} : (slotsF g).length ≤ 1000 ∧ (∀ s ∈ slotsF g, s.2.2.length ≤ 300) ∧ (seatsF g).2.length = (seatsF g).1.length ∧ (seatsF g).1.length ≤ 1000 := by
  by_cases h : checkF g = 0
  · have hw := hw_in (chk0.1 h).1 (chk0.1 h).2.1
    have hl : (slotsF g).length ≤ 2 * (g.h * g.w).toNat := by
      unfold slotsF
      rw [if_pos h]
      exact sl_len g _ 0 0
    have hs := (seats_are (g := g) h (c := 0) (by omega)).2.2
    refine ⟨by omega, fun s hs => ?_, by omega, by omega⟩
    unfold slotsF at hs
    rw [if_pos h] at hs
    have := (slots_open _ _ _ s hs).1
    omega
  · have e1 : slotsF g = [] := if_neg h
    have e2 : seatsF g = ([], []) := if_neg h
    rw [e1, e2]
    exact ⟨by simp, fun s hs => by simp at hs, rfl, by simp⟩
end Go.Proofs.YtnakmganodkliaaDoorAm
set_option maxRecDepth 100000
namespace Go.Proofs.YtnakmganodkliaaDoorAm
open Go
def vq19 (g : Gr) (S : List (Int × Bool × List Int)) (X : List (Int × Int)) (Y : List (Int × Int)) (A : List (Int × Int)) (E : List (Int × Int)) (i : Int) (A2 : List (Int × Int)) (E2 : List (Int × Int)) (G : Nat → St → Prop) (R : D × List (Option Row) × List Row → Prop) : Prop := let yy0 := (Ty.int IntKind.i64); let yy1 := (List.take (seatsF g).fst.length (List.drop 0 (seatsF g).fst) = List.take X.length (List.drop 0 X)); let yy2 := (List.take (slotsF g).length (List.drop 0 (slotsF g)) = List.take S.length (List.drop 0 S)); let yy3 := (yy0.prod yy0); let yy4 := (Value.bool (decide (List.take (seatsF g).snd.length (List.drop 0 (seatsF g).snd) = List.take Y.length (List.drop 0 Y)))); let yy5 := (yy0.prod (Ty.bool.prod yy0.sl)); let yy6 := (Value.int IntKind.i64 g.h); let yy7 := (Value.int IntKind.i64 g.w); (decide (i < (↑A.length : Int)) = true → (0 : Int) ≤ i ∧ i < (↑A.length : Int) ∧ 0 + i.toNat < A2.length ∧ (0 : Int) ≤ i ∧ i < (↑E.length : Int) ∧ 0 + i.toNat < E2.length ∧ SameK (KK q8 4) (KK q8 4) ∧ G 4 (stOf 164 [1, 3, 5, 6, 7, 8, 9, 132, 133] [D.ptr 0 0 0, D.ptr 1 0 0, D.own 2 0 S.length none, D.own 3 0 A.length none, D.own 4 0 E.length none, D.own 5 0 X.length none, D.own 6 0 Y.length none, D.v (Value.int IntKind.i64 (↑A.length : Int)), D.v (Value.int IntKind.i64 (IntKind.i64.wrap (i + (1 : Int))))] [Slot.live (Row.box 46 [D.v yy6, D.v yy7, D.sl false false Ty.bool g.B, D.sl false false Ty.bool g.R, D.sl false false Ty.bool g.L]), Slot.live (Row.box 46 [D.v yy6, D.v yy7, D.own 7 0 g.B.length none, D.own 8 0 g.R.length none, D.own 9 0 g.L.length none]), Slot.live (Row.data 50 yy5 S), Slot.live (Row.data 61 yy3 (A2.set (0 + i.toNat) ((A2.getD (0 + i.toNat) yy3.dflt).fst, (99 : Int)))), Slot.live (Row.data 61 yy3 (E2.set (0 + i.toNat) ((E2.getD (0 + i.toNat) yy3.dflt).fst, (98 : Int)))), Slot.live (Row.data 61 yy3 X), Slot.live (Row.data 61 yy3 Y), Slot.live (Row.data 4 Ty.bool g.B), Slot.live (Row.data 4 Ty.bool g.R), Slot.live (Row.data 4 Ty.bool g.L)])) ∧ (decide (i < (↑A.length : Int)) = false → Con Tryd.prog 40 [] [D.agg [D.v yy6, D.v yy7, D.sl false false Ty.bool g.B, D.sl false false Ty.bool g.R, D.sl false false Ty.bool g.L]] (D.tup [D.own 0 0 (seatsF g).fst.length none, D.own 1 0 (seatsF g).snd.length none]) [] [Row.data 61 yy3 (seatsF g).fst, Row.data 61 yy3 (seatsF g).snd] ∧ Value.int IntKind.i64 g.h = Value.int IntKind.i64 g.h ∧ Value.int IntKind.i64 g.w = Value.int IntKind.i64 g.w ∧ List.take g.B.length (List.drop 0 g.B) = g.B ∧ List.take g.R.length (List.drop 0 g.R) = g.R ∧ List.take g.L.length (List.drop 0 g.L) = g.L ∧ Con Tryd.prog 36 [] [D.agg [D.v yy6, D.v yy7, D.sl false false Ty.bool g.B, D.sl false false Ty.bool g.R, D.sl false false Ty.bool g.L]] (D.own 0 0 (slotsF g).length none) [] [Row.nest (NK.mk 50 yy5 2 3 yy0) (slotsF g) none] ∧ Value.int IntKind.i64 g.h = Value.int IntKind.i64 g.h ∧ Value.int IntKind.i64 g.w = Value.int IntKind.i64 g.w ∧ List.take g.B.length (List.drop 0 g.B) = g.B ∧ List.take g.R.length (List.drop 0 g.R) = g.R ∧ List.take g.L.length (List.drop 0 g.L) = g.L ∧ Con Tryd.prog 39 [] [D.sl false false yy5 (List.take (slotsF g).length (List.drop 0 (slotsF g))), D.sl false false yy5 (List.take S.length (List.drop 0 S))] (D.v (Value.bool (decide yy2))) [] [] ∧ List.take (slotsF g).length (List.drop 0 (slotsF g)) = List.take (slotsF g).length (List.drop 0 (slotsF g)) ∧ List.take S.length (List.drop 0 S) = List.take S.length (List.drop 0 S) ∧ (decide yy2 = true → Con Tryd.prog 42 [] [D.sl false false yy3 (List.take (seatsF g).fst.length (List.drop 0 (seatsF g).fst)), D.sl false false yy3 (List.take X.length (List.drop 0 X))] (D.v (Value.bool (decide yy1))) [] [] ∧ List.take (seatsF g).fst.length (List.drop 0 (seatsF g).fst) = List.take (seatsF g).fst.length (List.drop 0 (seatsF g).fst) ∧ List.take X.length (List.drop 0 X) = List.take X.length (List.drop 0 X) ∧ (decide yy1 = true → Con Tryd.prog 42 [] [D.sl false false yy3 (List.take (seatsF g).snd.length (List.drop 0 (seatsF g).snd)), D.sl false false yy3 (List.take Y.length (List.drop 0 Y))] (D.v yy4) [] [] ∧ List.take (seatsF g).snd.length (List.drop 0 (seatsF g).snd) = List.take (seatsF g).snd.length (List.drop 0 (seatsF g).snd) ∧ List.take Y.length (List.drop 0 Y) = List.take Y.length (List.drop 0 Y) ∧ R (D.v yy4, [], [])) ∧ (decide yy1 = false → R (D.v (Value.bool false), [], []))) ∧ (decide yy2 = false → false = false ∧ R (D.v (Value.bool false), [], [])))
theorem e8f (g : Gr) (S : List (Int × Bool × List Int)) (X Y A E : List (Int × Int)) (hAl : A.length ≤ 1000) (hE : E.length = A.length) (hS : slotsF g = S) (hSl : S.length ≤ 1000) (hc : ∀ s ∈ S, s.2.2.length ≤ 300) (hX : seatsF g = (X, Y)) (hXl : X.length ≤ 1000) (hYl : Y.length ≤ 1000) (z : Nat) : ∀ (i : Int) (A2 E2 : List (Int × Int)), 0 ≤ i → i + z = A.length → A2.length = A.length → E2.length = A.length → GetsK Tryd.prog Tryd.f8.results.toList [none] (KK q8) 0 (.v (.bool true), [], []) 4 (stOf 164 [1,3,5,6,7,8,9,132,133] [.ptr 0 0 0, .ptr 1 0 0, .own 2 0 S.length none, .own 3 0 A.length none, .own 4 0 E.length none, .own 5 0 X.length none, .own 6 0 Y.length none, .v (.int .i64 A.length), .v (.int .i64 i)] [.live (.box 46 [.v (.int .i64 g.h), .v (.int .i64 g.w), .sl false false .bool g.B, .sl false false .bool g.R, .sl false false .bool g.L]), .live (.box 46 [.v (.int .i64 g.h), .v (.int .i64 g.w), .own 7 0 g.B.length none, .own 8 0 g.R.length none, .own 9 0 g.L.length none]), .live (.data 50 SlT S), .live (.data 61 SeT A2), .live (.data 61 SeT E2), .live (.data 61 SeT X), .live (.data 61 SeT Y), .live (.data 4 .bool g.B), .live (.data 4 .bool g.R), .live (.data 4 .bool g.L)]) := by
  induction z with
  | zero =>
    intro i A2 E2 i0 hi hA2 hE2
    have c40 := d77 g
    have c36 := d36n g
    have c39 := d39D S S (by omega) (fun s hs => by have := hc s hs; omega)
    have c42 := d42D X X (by omega)
    have c43 := d42D Y Y (by omega)
    rw [hX] at c40
    rw [hS] at c36
    simp only [decide_true] at c39 c42 c43
    refine gets_vc (flagS [2000078,2000087,2000097,2000119] spP) (fun k => [[1,3,4,5,6,7,8,9,70,71],[1,3,4,5,6,7,8,9,10,70,71,79,80],[1,3,4,5,6,7,8,9,111,112],[1,3,4,5,6,7,8,9,12,111,112,119,120,121],[1,3,5,6,7,8,9,132,133]].getD k []) (fun k => if k = 3 then [⟨9999, 0, .unit⟩] else []) 400 (.fork (.hd 4) (.fork (.fork .stop .stop) (.f .stop))) (V := vq19 g S X Y A E i A2 E2) hmG (fun G R => by kernel_rfl) ?_
    unfold vq19
    try dsimp only
    simp only [hX, hS, take_len, List.drop_zero, List.take_length, Nat.zero_add, List.length_set, List.take_zero, List.nil_append, decide_true]
    simp (disch := omega) only [wrG, sameK_iff, true_and, and_true, decide_eq_true_eq, decide_eq_false_iff_not, ne_eq, not_false_eq_true, Bool.false_eq_true, Bool.true_eq_false, false_implies, true_implies, Ty.dflt, reduceCtorEq, beq_iff_eq, bne_iff_ne, beq_eq_false_iff_ne, bne_eq_false_iff_eq, Bool.not_eq_true, Bool.not_eq_eq_eq_not, Bool.not_true, Bool.not_false, gt_iff_lt, ge_iff_le, Int.not_lt, Int.not_le]
    repeat' (first | with_reducible refine And.intro ?_ ?_ | intro _)
    all_goals first | rfl | omega | assumption | trivial | exact room3 (by omega) | (exfalso; simp_all; done) | (exfalso; omega) | skip
  | succ z ih =>
    intro i A2 E2 i0 hi hA2 hE2
    have hk1 : IntKind.i64.wrap (i + 1) = i + 1 := wrG (by omega) (by omega)
    have h1 := ih (i + 1) (A2.set i.toNat ((A2.getD i.toNat (0, 0)).1, 99)) (E2.set i.toNat ((E2.getD i.toNat (0, 0)).1, 98)) (by omega) (by omega) (by rw [List.length_set]; exact hA2) (by rw [List.length_set]; exact hE2)
    refine gets_vc (flagS [2000078,2000087,2000097,2000119] spP) (fun k => [[1,3,4,5,6,7,8,9,70,71],[1,3,4,5,6,7,8,9,10,70,71,79,80],[1,3,4,5,6,7,8,9,111,112],[1,3,4,5,6,7,8,9,12,111,112,119,120,121],[1,3,5,6,7,8,9,132,133]].getD k []) (fun k => if k = 3 then [⟨9999, 0, .unit⟩] else []) 400 (.fork (.hd 4) (.fork (.fork .stop .stop) (.f .stop))) (V := vq19 g S X Y A E i A2 E2) hmG (fun G R => by kernel_rfl) ?_
    unfold vq19
    try dsimp only
    simp only [Ty.dflt, hk1, Nat.zero_add]
    simp (disch := omega) only [wrG, sameK_iff, true_and, and_true, decide_eq_true_eq, decide_eq_false_iff_not, ne_eq, not_false_eq_true, Bool.false_eq_true, Bool.true_eq_false, false_implies, true_implies, Ty.dflt, reduceCtorEq, beq_iff_eq, bne_iff_ne, beq_eq_false_iff_ne, bne_eq_false_iff_eq, Bool.not_eq_true, Bool.not_eq_eq_eq_not, Bool.not_true, Bool.not_false, gt_iff_lt, ge_iff_le, Int.not_lt, Int.not_le]
    repeat' (first | with_reducible refine And.intro ?_ ?_ | intro _)
    all_goals first | rfl | omega | assumption | trivial | exact room3 (by omega) | (exfalso; simp_all; done) | (exfalso; omega) | skip
def vq20 (g : Gr) (S : List (Int × Bool × List Int)) (N : List (Int × Bool × List Int)) (X : List (Int × Int)) (Y : List (Int × Int)) (A : List (Int × Int)) (E : List (Int × Int)) (i : Int) (l : List Int) (t : Int) (G : Nat → St → Prop) (R : D × List (Option Row) × List Row → Prop) : Prop := let yy0 := (Ty.int IntKind.i64); let yy1 := (Row.box 46 [D.v (Value.int IntKind.i64 g.h), D.v (Value.int IntKind.i64 g.w), D.sl false false Ty.bool g.B, D.sl false false Ty.bool g.R, D.sl false false Ty.bool g.L]); let yy2 := (yy0.prod (Ty.bool.prod yy0.sl)); let yy3 := (yy0.prod yy0); (decide (t < (↑l.length : Int)) = true → (0 : Int) ≤ t ∧ t < (↑l.length : Int) ∧ 0 + t.toNat < l.length ∧ ((l.getD (0 + t.toNat) yy0.dflt != IntKind.i64.wrap ((-5 : Int) - i)) = true → R (D.v (Value.bool false), [], [])) ∧ ((l.getD (0 + t.toNat) yy0.dflt != IntKind.i64.wrap ((-5 : Int) - i)) = false → SameK (KK q8 3) (KK q8 3) ∧ G 3 (stOf 164 [1, 3, 4, 5, 6, 7, 8, 9, 12, 111, 112, 119, 120, 121] [D.ptr 0 0 0, D.ptr 1 0 0, D.own 2 0 S.length none, D.own 3 0 S.length none, D.own 4 0 A.length none, D.own 5 0 E.length none, D.own 6 0 X.length none, D.own 7 0 Y.length none, D.v (Value.int IntKind.i64 i), D.v (Value.int IntKind.i64 (↑S.length : Int)), D.v (Value.int IntKind.i64 i), D.own 8 0 l.length none, D.v (Value.int IntKind.i64 (↑l.length : Int)), D.v (Value.int IntKind.i64 (IntKind.i64.wrap (t + (1 : Int))))] [Slot.live yy1, Slot.live (Row.box 46 [D.v (Value.int IntKind.i64 g.h), D.v (Value.int IntKind.i64 g.w), D.own 9 0 g.B.length none, D.own 10 0 g.R.length none, D.own 11 0 g.L.length none]), Slot.live (Row.nest (NK.mk 50 yy2 2 3 yy0) N (some (i.toNat, D.own 8 0 l.length none))), Slot.live (Row.data 50 yy2 S), Slot.live (Row.data 61 yy3 A), Slot.live (Row.data 61 yy3 E), Slot.live (Row.data 61 yy3 X), Slot.live (Row.data 61 yy3 Y), Slot.live (Row.data 3 yy0 l), Slot.live (Row.data 4 Ty.bool g.B), Slot.live (Row.data 4 Ty.bool g.R), Slot.live (Row.data 4 Ty.bool g.L)]))) ∧ (decide (t < (↑l.length : Int)) = false → SameK (KK q8 2) (KK q8 2) ∧ G 2 (stOf 164 [1, 3, 4, 5, 6, 7, 8, 9, 111, 112] [D.ptr 0 0 0, D.ptr 1 0 0, D.own 2 0 S.length none, D.own 3 0 S.length none, D.own 4 0 A.length none, D.own 5 0 E.length none, D.own 6 0 X.length none, D.own 7 0 Y.length none, D.v (Value.int IntKind.i64 (↑S.length : Int)), D.v (Value.int IntKind.i64 (IntKind.i64.wrap (i + (1 : Int))))] [Slot.live yy1, Slot.live (Row.box 46 [D.v (Value.int IntKind.i64 g.h), D.v (Value.int IntKind.i64 g.w), D.own 8 0 g.B.length none, D.own 9 0 g.R.length none, D.own 10 0 g.L.length none]), Slot.live (Row.nest (NK.mk 50 yy2 2 3 yy0) (N.set i.toNat ((N.getD i.toNat (NK.mk 50 yy2 2 3 yy0).t.dflt).fst, (N.getD i.toNat (NK.mk 50 yy2 2 3 yy0).t.dflt).snd.fst, List.take l.length l)) none), Slot.live (Row.data 50 yy2 S), Slot.live (Row.data 61 yy3 A), Slot.live (Row.data 61 yy3 E), Slot.live (Row.data 61 yy3 X), Slot.live (Row.data 61 yy3 Y), Slot.live (Row.data 4 Ty.bool g.B), Slot.live (Row.data 4 Ty.bool g.R), Slot.live (Row.data 4 Ty.bool g.L)]))
theorem e8d (g : Gr) (S N : List (Int × Bool × List Int)) (X Y A E : List (Int × Int)) (i : Int) (l : List Int) (i0 : 0 ≤ i) (i1 : i < 1000) (hl : (N.getD i.toNat (0, false, [])).2.2 = l) (hll : l.length ≤ 300) (hn : ∀ t : Nat, t < l.length → l.getD t 0 = -5 - i) (hx : GetsK Tryd.prog Tryd.f8.results.toList [none] (KK q8) 0 (.v (.bool true), [], []) 2 (stOf 164 [1,3,4,5,6,7,8,9,111,112] [.ptr 0 0 0, .ptr 1 0 0, .own 2 0 S.length none, .own 3 0 S.length none, .own 4 0 A.length none, .own 5 0 E.length none, .own 6 0 X.length none, .own 7 0 Y.length none, .v (.int .i64 S.length), .v (.int .i64 (i + 1))] [.live (.box 46 [.v (.int .i64 g.h), .v (.int .i64 g.w), .sl false false .bool g.B, .sl false false .bool g.R, .sl false false .bool g.L]), .live (.box 46 [.v (.int .i64 g.h), .v (.int .i64 g.w), .own 8 0 g.B.length none, .own 9 0 g.R.length none, .own 10 0 g.L.length none]), .live (.nest kS N none), .live (.data 50 SlT S), .live (.data 61 SeT A), .live (.data 61 SeT E), .live (.data 61 SeT X), .live (.data 61 SeT Y), .live (.data 4 .bool g.B), .live (.data 4 .bool g.R), .live (.data 4 .bool g.L)])) (z : Nat) : ∀ (t : Int), 0 ≤ t → t + z = l.length → GetsK Tryd.prog Tryd.f8.results.toList [none] (KK q8) 0 (.v (.bool true), [], []) 3 (stOf 164 [1,3,4,5,6,7,8,9,12,111,112,119,120,121] [.ptr 0 0 0, .ptr 1 0 0, .own 2 0 S.length none, .own 3 0 S.length none, .own 4 0 A.length none, .own 5 0 E.length none, .own 6 0 X.length none, .own 7 0 Y.length none, .v (.int .i64 i), .v (.int .i64 S.length), .v (.int .i64 i), .own 8 0 l.length none, .v (.int .i64 l.length), .v (.int .i64 t)] [.live (.box 46 [.v (.int .i64 g.h), .v (.int .i64 g.w), .sl false false .bool g.B, .sl false false .bool g.R, .sl false false .bool g.L]), .live (.box 46 [.v (.int .i64 g.h), .v (.int .i64 g.w), .own 9 0 g.B.length none, .own 10 0 g.R.length none, .own 11 0 g.L.length none]), .live (.nest kS N (some (i.toNat, .own 8 0 l.length none))), .live (.data 50 SlT S), .live (.data 61 SeT A), .live (.data 61 SeT E), .live (.data 61 SeT X), .live (.data 61 SeT Y), .live (.data 3 (.int .i64) l), .live (.data 4 .bool g.B), .live (.data 4 .bool g.R), .live (.data 4 .bool g.L)]) := by
  have hii : IntKind.i64.wrap (i + 1) = i + 1 := wrG (by omega) (by omega)
  have hni : IntKind.i64.wrap (-5 - i) = -5 - i := wrG (by omega) (by omega)
  induction z with
  | zero =>
    intro t t0 ht
    have hset : N.set i.toNat ((N.getD i.toNat (0, false, [])).1, (N.getD i.toNat (0, false, [])).2.1, l) = N := by
      rw [← hl]
      exact set_selfD (0, false, []) N i.toNat
    refine gets_vc (flagS [2000078,2000087,2000097,2000119] spP) (fun k => [[1,3,4,5,6,7,8,9,70,71],[1,3,4,5,6,7,8,9,10,70,71,79,80],[1,3,4,5,6,7,8,9,111,112],[1,3,4,5,6,7,8,9,12,111,112,119,120,121],[1,3,5,6,7,8,9,132,133]].getD k []) (fun k => if k = 3 then [⟨9999, 0, .unit⟩] else []) 400 (.fork (.fork .stop (.hd 3)) (.hd 2)) (V := vq20 g S N X Y A E i l t) hmG (fun G R => by kernel_rfl) ?_
    unfold vq20
    try dsimp only
    simp only [Ty.dflt, hii, List.take_length, hset]
    simp (disch := omega) only [wrG, sameK_iff, true_and, and_true, decide_eq_true_eq, decide_eq_false_iff_not, ne_eq, not_false_eq_true, Bool.false_eq_true, Bool.true_eq_false, false_implies, true_implies, Ty.dflt, reduceCtorEq, beq_iff_eq, bne_iff_ne, beq_eq_false_iff_ne, bne_eq_false_iff_eq, Bool.not_eq_true, Bool.not_eq_eq_eq_not, Bool.not_true, Bool.not_false, gt_iff_lt, ge_iff_le, Int.not_lt, Int.not_le]
    repeat' (first | with_reducible refine And.intro ?_ ?_ | intro _)
    all_goals first | rfl | omega | assumption | trivial | exact room3 (by omega) | (exfalso; simp_all; done) | (exfalso; omega) | skip
  | succ z ih =>
    intro t t0 ht
    have hk1 : IntKind.i64.wrap (t + 1) = t + 1 := wrG (by omega) (by omega)
    have h1 := ih (t + 1) (by omega) (by omega)
    have h2 := hn t.toNat (by omega)
    have h3 : (-5 - i != -5 - i) = false := by simp
    refine gets_vc (flagS [2000078,2000087,2000097,2000119] spP) (fun k => [[1,3,4,5,6,7,8,9,70,71],[1,3,4,5,6,7,8,9,10,70,71,79,80],[1,3,4,5,6,7,8,9,111,112],[1,3,4,5,6,7,8,9,12,111,112,119,120,121],[1,3,5,6,7,8,9,132,133]].getD k []) (fun k => if k = 3 then [⟨9999, 0, .unit⟩] else []) 400 (.fork (.fork .stop (.hd 3)) (.hd 2)) (V := vq20 g S N X Y A E i l t) hmG (fun G R => by kernel_rfl) ?_
    unfold vq20
    try dsimp only
    simp only [Ty.dflt, hk1, hni, Nat.zero_add, h2, h3]
    simp (disch := omega) only [wrG, sameK_iff, true_and, and_true, decide_eq_true_eq, decide_eq_false_iff_not, ne_eq, not_false_eq_true, Bool.false_eq_true, Bool.true_eq_false, false_implies, true_implies, Ty.dflt, reduceCtorEq, beq_iff_eq, bne_iff_ne, beq_eq_false_iff_ne, bne_eq_false_iff_eq, Bool.not_eq_true, Bool.not_eq_eq_eq_not, Bool.not_true, Bool.not_false, gt_iff_lt, ge_iff_le, Int.not_lt, Int.not_le]
    repeat' (first | with_reducible refine And.intro ?_ ?_ | intro _)
    all_goals first | rfl | omega | assumption | trivial | exact room3 (by omega) | (exfalso; simp_all; done) | (exfalso; omega) | skip
def vq21 (g : Gr) (S : List (Int × Bool × List Int)) (N : List (Int × Bool × List Int)) (X : List (Int × Int)) (Y : List (Int × Int)) (A : List (Int × Int)) (E : List (Int × Int)) (i : Int) (G : Nat → St → Prop) (R : D × List (Option Row) × List Row → Prop) : Prop := let yy0 := (Ty.int IntKind.i64); let yy1 := (N.getD (0 + i.toNat) (NK.mk 50 (yy0.prod (Ty.bool.prod yy0.sl)) 2 3 yy0).t.dflt); let yy2 := (Row.box 46 [D.v (Value.int IntKind.i64 g.h), D.v (Value.int IntKind.i64 g.w), D.sl false false Ty.bool g.B, D.sl false false Ty.bool g.R, D.sl false false Ty.bool g.L]); let yy3 := (yy0.prod yy0); (decide (i < (↑S.length : Int)) = true → (0 : Int) ≤ i ∧ i < (↑S.length : Int) ∧ 0 + i.toNat < N.length ∧ SameK (KK q8 3) (KK q8 3) ∧ G 3 (stOf 164 [1, 3, 4, 5, 6, 7, 8, 9, 12, 111, 112, 119, 120, 121] [D.ptr 0 0 0, D.ptr 1 0 0, D.own 2 0 S.length none, D.own 3 0 S.length none, D.own 4 0 A.length none, D.own 5 0 E.length none, D.own 6 0 X.length none, D.own 7 0 Y.length none, D.v (Value.int IntKind.i64 i), D.v (Value.int IntKind.i64 (↑S.length : Int)), D.v (Value.int IntKind.i64 i), D.own 8 0 (List.length yy1.snd.snd) none, D.v (Value.int IntKind.i64 (↑(List.length yy1.snd.snd) : Int)), D.v (Value.int IntKind.i64 (0 : Int))] [Slot.live yy2, Slot.live (Row.box 46 [D.v (Value.int IntKind.i64 g.h), D.v (Value.int IntKind.i64 g.w), D.own 9 0 g.B.length none, D.own 10 0 g.R.length none, D.own 11 0 g.L.length none]), Slot.live (Row.nest (NK.mk 50 (yy0.prod (Ty.bool.prod yy0.sl)) 2 3 yy0) N (some (0 + i.toNat, D.own 8 0 (List.length yy1.snd.snd) none))), Slot.live (Row.data 50 (yy0.prod (Ty.bool.prod yy0.sl)) S), Slot.live (Row.data 61 yy3 A), Slot.live (Row.data 61 yy3 E), Slot.live (Row.data 61 yy3 X), Slot.live (Row.data 61 yy3 Y), Slot.live (Row.data 3 yy0 yy1.snd.snd), Slot.live (Row.data 4 Ty.bool g.B), Slot.live (Row.data 4 Ty.bool g.R), Slot.live (Row.data 4 Ty.bool g.L)])) ∧ (decide (i < (↑S.length : Int)) = false → SameK (KK q8 4) (KK q8 4) ∧ G 4 (stOf 164 [1, 3, 5, 6, 7, 8, 9, 132, 133] [D.ptr 0 0 0, D.ptr 1 0 0, D.own 2 0 S.length none, D.own 3 0 A.length none, D.own 4 0 E.length none, D.own 5 0 X.length none, D.own 6 0 Y.length none, D.v (Value.int IntKind.i64 (↑A.length : Int)), D.v (Value.int IntKind.i64 (0 : Int))] [Slot.live yy2, Slot.live (Row.box 46 [D.v (Value.int IntKind.i64 g.h), D.v (Value.int IntKind.i64 g.w), D.own 7 0 g.B.length none, D.own 8 0 g.R.length none, D.own 9 0 g.L.length none]), Slot.live (Row.data 50 (yy0.prod (Ty.bool.prod yy0.sl)) S), Slot.live (Row.data 61 yy3 A), Slot.live (Row.data 61 yy3 E), Slot.live (Row.data 61 yy3 X), Slot.live (Row.data 61 yy3 Y), Slot.live (Row.data 4 Ty.bool g.B), Slot.live (Row.data 4 Ty.bool g.R), Slot.live (Row.data 4 Ty.bool g.L)]))
theorem e8c (g : Gr) (S N : List (Int × Bool × List Int)) (X Y A E : List (Int × Int)) (hSl : S.length ≤ 1000) (hc : ∀ j : Nat, j < S.length → (cellsAt S j).length ≤ 300) (q : OverI S N S.length 0) (hx : GetsK Tryd.prog Tryd.f8.results.toList [none] (KK q8) 0 (.v (.bool true), [], []) 4 (stOf 164 [1,3,5,6,7,8,9,132,133] [.ptr 0 0 0, .ptr 1 0 0, .own 2 0 S.length none, .own 3 0 A.length none, .own 4 0 E.length none, .own 5 0 X.length none, .own 6 0 Y.length none, .v (.int .i64 A.length), .v (.int .i64 0)] [.live (.box 46 [.v (.int .i64 g.h), .v (.int .i64 g.w), .sl false false .bool g.B, .sl false false .bool g.R, .sl false false .bool g.L]), .live (.box 46 [.v (.int .i64 g.h), .v (.int .i64 g.w), .own 7 0 g.B.length none, .own 8 0 g.R.length none, .own 9 0 g.L.length none]), .live (.data 50 SlT S), .live (.data 61 SeT A), .live (.data 61 SeT E), .live (.data 61 SeT X), .live (.data 61 SeT Y), .live (.data 4 .bool g.B), .live (.data 4 .bool g.R), .live (.data 4 .bool g.L)])) (z : Nat) : ∀ (i : Int), 0 ≤ i → i + z = S.length → GetsK Tryd.prog Tryd.f8.results.toList [none] (KK q8) 0 (.v (.bool true), [], []) 2 (stOf 164 [1,3,4,5,6,7,8,9,111,112] [.ptr 0 0 0, .ptr 1 0 0, .own 2 0 S.length none, .own 3 0 S.length none, .own 4 0 A.length none, .own 5 0 E.length none, .own 6 0 X.length none, .own 7 0 Y.length none, .v (.int .i64 S.length), .v (.int .i64 i)] [.live (.box 46 [.v (.int .i64 g.h), .v (.int .i64 g.w), .sl false false .bool g.B, .sl false false .bool g.R, .sl false false .bool g.L]), .live (.box 46 [.v (.int .i64 g.h), .v (.int .i64 g.w), .own 8 0 g.B.length none, .own 9 0 g.R.length none, .own 10 0 g.L.length none]), .live (.nest kS N none), .live (.data 50 SlT S), .live (.data 61 SeT A), .live (.data 61 SeT E), .live (.data 61 SeT X), .live (.data 61 SeT Y), .live (.data 4 .bool g.B), .live (.data 4 .bool g.R), .live (.data 4 .bool g.L)]) := by
  have hql := q.len
  induction z with
  | zero =>
    intro i i0 hi
    refine gets_vc (flagS [2000078,2000087,2000097,2000119] spP) (fun k => [[1,3,4,5,6,7,8,9,70,71],[1,3,4,5,6,7,8,9,10,70,71,79,80],[1,3,4,5,6,7,8,9,111,112],[1,3,4,5,6,7,8,9,12,111,112,119,120,121],[1,3,5,6,7,8,9,132,133]].getD k []) (fun k => if k = 3 then [⟨9999, 0, .unit⟩] else []) 400 (.fork (.hd 3) (.hd 4)) (V := vq21 g S N X Y A E i) hmG (fun G R => by kernel_rfl) ?_
    unfold vq21
    try dsimp only
    simp (disch := omega) only [wrG, sameK_iff, true_and, and_true, decide_eq_true_eq, decide_eq_false_iff_not, ne_eq, not_false_eq_true, Bool.false_eq_true, Bool.true_eq_false, false_implies, true_implies, Ty.dflt, reduceCtorEq, beq_iff_eq, bne_iff_ne, beq_eq_false_iff_ne, bne_eq_false_iff_eq, Bool.not_eq_true, Bool.not_eq_eq_eq_not, Bool.not_true, Bool.not_false, gt_iff_lt, ge_iff_le, Int.not_lt, Int.not_le]
    repeat' (first | with_reducible refine And.intro ?_ ?_ | intro _)
    all_goals first | rfl | omega | assumption | trivial | exact room3 (by omega) | (exfalso; simp_all; done) | (exfalso; omega) | skip
  | succ z ih =>
    intro i i0 hi
    have hlj := q.lens i.toNat (by omega)
    have hcj := hc i.toNat (by omega)
    have hneg := q.neg i.toNat (by omega)
    have hit : ((i.toNat : Nat) : Int) = i := by omega
    rw [hit] at hneg
    have h1 := e8d g S N X Y A E i (cellsAt N i.toNat) i0 (by omega) rfl (by omega) hneg (ih (i + 1) (by omega) (by omega)) (cellsAt N i.toNat).length 0 (by omega) (by omega)
    unfold cellsAt at h1
    refine gets_vc (flagS [2000078,2000087,2000097,2000119] spP) (fun k => [[1,3,4,5,6,7,8,9,70,71],[1,3,4,5,6,7,8,9,10,70,71,79,80],[1,3,4,5,6,7,8,9,111,112],[1,3,4,5,6,7,8,9,12,111,112,119,120,121],[1,3,5,6,7,8,9,132,133]].getD k []) (fun k => if k = 3 then [⟨9999, 0, .unit⟩] else []) 400 (.fork (.hd 3) (.hd 4)) (V := vq21 g S N X Y A E i) hmG (fun G R => by kernel_rfl) ?_
    unfold vq21
    try dsimp only
    simp only [Ty.dflt, Nat.zero_add]
    simp (disch := omega) only [wrG, sameK_iff, true_and, and_true, decide_eq_true_eq, decide_eq_false_iff_not, ne_eq, not_false_eq_true, Bool.false_eq_true, Bool.true_eq_false, false_implies, true_implies, Ty.dflt, reduceCtorEq, beq_iff_eq, bne_iff_ne, beq_eq_false_iff_ne, bne_eq_false_iff_eq, Bool.not_eq_true, Bool.not_eq_eq_eq_not, Bool.not_true, Bool.not_false, gt_iff_lt, ge_iff_le, Int.not_lt, Int.not_le]
    repeat' (first | with_reducible refine And.intro ?_ ?_ | intro _)
    all_goals first | rfl | omega | assumption | trivial | exact room3 (by omega) | (exfalso; simp_all; done) | (exfalso; omega) | skip
def vq22 (g : Gr) (S : List (Int × Bool × List Int)) (X : List (Int × Int)) (Y : List (Int × Int)) (A : List (Int × Int)) (E : List (Int × Int)) (i : Int) (n : Nat) (k : Int) (N : List (Int × Bool × List Int)) (G : Nat → St → Prop) (R : D × List (Option Row) × List Row → Prop) : Prop := let yy0 := (N.getD (0 + i.toNat) (NK.mk 50 ((Ty.int IntKind.i64).prod (Ty.bool.prod (Ty.int IntKind.i64).sl)) 2 3 (Ty.int IntKind.i64)).t.dflt); let yy1 := (Ty.int IntKind.i64); let yy2 := (Row.box 46 [D.v (Value.int IntKind.i64 g.h), D.v (Value.int IntKind.i64 g.w), D.sl false false Ty.bool g.B, D.sl false false Ty.bool g.R, D.sl false false Ty.bool g.L]); let yy3 := ((↑(List.length yy0.snd.snd + 1) : Int) != IntKind.i64.wrap ((↑(List.length (S.getD (0 + i.toNat) (yy1.prod (Ty.bool.prod yy1.sl)).dflt).snd.snd) : Int) + (1 : Int))); let yy4 := (Row.box 46 [D.v (Value.int IntKind.i64 g.h), D.v (Value.int IntKind.i64 g.w), D.own 8 0 g.B.length none, D.own 9 0 g.R.length none, D.own 10 0 g.L.length none]); let yy5 := (yy1.prod (Ty.bool.prod yy1.sl)); let yy6 := (yy1.prod yy1); (decide (k < (↑n : Int)) = true → (0 : Int) ≤ i ∧ i < (↑S.length : Int) ∧ 0 + i.toNat < N.length ∧ (0 : Int) ≤ k ∧ k < (↑(List.length yy0.snd.snd) : Int) ∧ 0 + k.toNat < List.length yy0.snd.snd ∧ SameK (KK q8 1) (KK q8 1) ∧ G 1 (stOf 164 [1, 3, 4, 5, 6, 7, 8, 9, 10, 70, 71, 79, 80] [D.ptr 0 0 0, D.ptr 1 0 0, D.own 2 0 S.length none, D.own 3 0 S.length none, D.own 4 0 A.length none, D.own 5 0 E.length none, D.own 6 0 X.length none, D.own 7 0 Y.length none, D.v (Value.int IntKind.i64 i), D.v (Value.int IntKind.i64 (↑S.length : Int)), D.v (Value.int IntKind.i64 i), D.v (Value.int IntKind.i64 (↑n : Int)), D.v (Value.int IntKind.i64 (IntKind.i64.wrap (k + (1 : Int))))] [Slot.live yy2, Slot.live yy4, Slot.live (Row.nest (NK.mk 50 yy5 2 3 yy1) (N.set (0 + i.toNat) (yy0.fst, yy0.snd.fst, List.take (List.length yy0.snd.snd) (List.set yy0.snd.snd (0 + k.toNat) (IntKind.i64.wrap ((-5 : Int) - i))))) none), Slot.live (Row.data 50 yy5 S), Slot.live (Row.data 61 yy6 A), Slot.live (Row.data 61 yy6 E), Slot.live (Row.data 61 yy6 X), Slot.live (Row.data 61 yy6 Y), Slot.live (Row.data 4 Ty.bool g.B), Slot.live (Row.data 4 Ty.bool g.R), Slot.live (Row.data 4 Ty.bool g.L)])) ∧ (decide (k < (↑n : Int)) = false → (0 : Int) ≤ i ∧ i < (↑S.length : Int) ∧ 0 + i.toNat < N.length ∧ List.length yy0.snd.snd ≤ 0 + List.length yy0.snd.snd ∧ roomy Tryd.prog 3 (List.length yy0.snd.snd + 1) ∧ (0 : Int) ≤ i ∧ i < (↑S.length : Int) ∧ 0 + i.toNat < S.length ∧ (yy3 = true → R (D.v (Value.bool false), [], [])) ∧ (yy3 = false → SameK (KK q8 0) (KK q8 0) ∧ G 0 (stOf 164 [1, 3, 4, 5, 6, 7, 8, 9, 70, 71] [D.ptr 0 0 0, D.ptr 1 0 0, D.own 2 0 S.length none, D.own 3 0 S.length none, D.own 4 0 A.length none, D.own 5 0 E.length none, D.own 6 0 X.length none, D.own 7 0 Y.length none, D.v (Value.int IntKind.i64 (↑S.length : Int)), D.v (Value.int IntKind.i64 (IntKind.i64.wrap (i + (1 : Int))))] [Slot.live yy2, Slot.live yy4, Slot.live (Row.nest (NK.mk 50 yy5 2 3 yy1) (N.set (0 + i.toNat) (yy0.fst, yy0.snd.fst, List.take (List.length yy0.snd.snd) yy0.snd.snd)) none), Slot.live (Row.data 50 yy5 S), Slot.live (Row.data 61 yy6 A), Slot.live (Row.data 61 yy6 E), Slot.live (Row.data 61 yy6 X), Slot.live (Row.data 61 yy6 Y), Slot.live (Row.data 4 Ty.bool g.B), Slot.live (Row.data 4 Ty.bool g.R), Slot.live (Row.data 4 Ty.bool g.L)])))
theorem e8b (g : Gr) (S : List (Int × Bool × List Int)) (X Y A E : List (Int × Int)) (i : Int) (n : Nat) (i0 : 0 ≤ i) (i1 : i < S.length) (hSl : S.length ≤ 1000) (hn : (cellsAt S i.toNat).length = n) (hnl : n ≤ 300) (hx : ∀ N, OverI S N (i.toNat + 1) 0 → GetsK Tryd.prog Tryd.f8.results.toList [none] (KK q8) 0 (.v (.bool true), [], []) 0 (stOf 164 [1,3,4,5,6,7,8,9,70,71] [.ptr 0 0 0, .ptr 1 0 0, .own 2 0 S.length none, .own 3 0 S.length none, .own 4 0 A.length none, .own 5 0 E.length none, .own 6 0 X.length none, .own 7 0 Y.length none, .v (.int .i64 S.length), .v (.int .i64 (i + 1))] [.live (.box 46 [.v (.int .i64 g.h), .v (.int .i64 g.w), .sl false false .bool g.B, .sl false false .bool g.R, .sl false false .bool g.L]), .live (.box 46 [.v (.int .i64 g.h), .v (.int .i64 g.w), .own 8 0 g.B.length none, .own 9 0 g.R.length none, .own 10 0 g.L.length none]), .live (.nest kS N none), .live (.data 50 SlT S), .live (.data 61 SeT A), .live (.data 61 SeT E), .live (.data 61 SeT X), .live (.data 61 SeT Y), .live (.data 4 .bool g.B), .live (.data 4 .bool g.R), .live (.data 4 .bool g.L)])) (z : Nat) : ∀ (k : Int) (N : List (Int × Bool × List Int)), 0 ≤ k → k + z = n → OverI S N i.toNat k.toNat → GetsK Tryd.prog Tryd.f8.results.toList [none] (KK q8) 0 (.v (.bool true), [], []) 1 (stOf 164 [1,3,4,5,6,7,8,9,10,70,71,79,80] [.ptr 0 0 0, .ptr 1 0 0, .own 2 0 S.length none, .own 3 0 S.length none, .own 4 0 A.length none, .own 5 0 E.length none, .own 6 0 X.length none, .own 7 0 Y.length none, .v (.int .i64 i), .v (.int .i64 S.length), .v (.int .i64 i), .v (.int .i64 n), .v (.int .i64 k)] [.live (.box 46 [.v (.int .i64 g.h), .v (.int .i64 g.w), .sl false false .bool g.B, .sl false false .bool g.R, .sl false false .bool g.L]), .live (.box 46 [.v (.int .i64 g.h), .v (.int .i64 g.w), .own 8 0 g.B.length none, .own 9 0 g.R.length none, .own 10 0 g.L.length none]), .live (.nest kS N none), .live (.data 50 SlT S), .live (.data 61 SeT A), .live (.data 61 SeT E), .live (.data 61 SeT X), .live (.data 61 SeT Y), .live (.data 4 .bool g.B), .live (.data 4 .bool g.R), .live (.data 4 .bool g.L)]) := by
  have hii : IntKind.i64.wrap (i + 1) = i + 1 := wrG (by omega) (by omega)
  have hni : IntKind.i64.wrap (-5 - i) = -5 - i := wrG (by omega) (by omega)
  induction z with
  | zero =>
    intro k N k0 hk q
    have hlj := q.lens i.toNat (by omega)
    have hql := q.len
    have hkk : k.toNat = (cellsAt N i.toNat).length := by omega
    rw [hkk] at q
    have h1 := hx N q.done
    have hset : N.set i.toNat ((N.getD i.toNat (0, false, [])).1, (N.getD i.toNat (0, false, [])).2.1, (N.getD i.toNat (0, false, [])).2.2) = N := set_selfD (0, false, []) N i.toNat
    have hw1 : IntKind.i64.wrap ((n : Int) + 1) = n + 1 := wrG (by omega) (by omega)
    have he : ((((n + 1 : Nat)) : Int) != (n : Int) + 1) = false := by simp
    have hnN : (cellsAt N i.toNat).length = n := by omega
    unfold cellsAt at hnN hn
    refine gets_vc (flagS [2000078,2000087,2000097,2000119] spP) (fun k => [[1,3,4,5,6,7,8,9,70,71],[1,3,4,5,6,7,8,9,10,70,71,79,80],[1,3,4,5,6,7,8,9,111,112],[1,3,4,5,6,7,8,9,12,111,112,119,120,121],[1,3,5,6,7,8,9,132,133]].getD k []) (fun k => if k = 3 then [⟨9999, 0, .unit⟩] else []) 400 (.fork (.hd 1) (.fork .stop (.hd 0))) (V := vq22 g S X Y A E i n k N) hmG (fun G R => by kernel_rfl) ?_
    unfold vq22
    try dsimp only
    simp only [Ty.dflt, Nat.zero_add, List.take_length, hii, hset, hnN, hn, hw1, he]
    rw [← hnN, List.take_length, hset]
    simp (disch := omega) only [wrG, sameK_iff, true_and, and_true, decide_eq_true_eq, decide_eq_false_iff_not, ne_eq, not_false_eq_true, Bool.false_eq_true, Bool.true_eq_false, false_implies, true_implies, Ty.dflt, reduceCtorEq, beq_iff_eq, bne_iff_ne, beq_eq_false_iff_ne, bne_eq_false_iff_eq, Bool.not_eq_true, Bool.not_eq_eq_eq_not, Bool.not_true, Bool.not_false, gt_iff_lt, ge_iff_le, Int.not_lt, Int.not_le]
    repeat' (first | with_reducible refine And.intro ?_ ?_ | intro _)
    all_goals first | rfl | omega | assumption | trivial | exact room3 (by omega) | (exfalso; simp_all; done) | (exfalso; omega) | skip
  | succ z ih =>
    intro k N k0 hk q
    have hk1 : IntKind.i64.wrap (k + 1) = k + 1 := wrG (by omega) (by omega)
    have hkt : (k + 1).toNat = k.toNat + 1 := by omega
    have hlj := q.lens i.toNat (by omega)
    have hql := q.len
    have hit : ((i.toNat : Nat) : Int) = i := by omega
    have hst := q.step (a := (N.getD i.toNat (0, false, [])).1) (b := (N.getD i.toNat (0, false, [])).2.1) (by omega) (by omega)
    rw [hit, ← hkt] at hst
    have h1 := ih (k + 1) _ (by omega) (by omega) hst
    unfold cellsAt at h1 hlj hn
    have htk : List.take (N.getD i.toNat (0, false, [])).2.2.length ((N.getD i.toNat (0, false, [])).2.2.set k.toNat (-5 - i)) = (N.getD i.toNat (0, false, [])).2.2.set k.toNat (-5 - i) := List.take_of_length_le (by simp)
    refine gets_vc (flagS [2000078,2000087,2000097,2000119] spP) (fun k => [[1,3,4,5,6,7,8,9,70,71],[1,3,4,5,6,7,8,9,10,70,71,79,80],[1,3,4,5,6,7,8,9,111,112],[1,3,4,5,6,7,8,9,12,111,112,119,120,121],[1,3,5,6,7,8,9,132,133]].getD k []) (fun k => if k = 3 then [⟨9999, 0, .unit⟩] else []) 400 (.fork (.hd 1) (.fork .stop (.hd 0))) (V := vq22 g S X Y A E i n k N) hmG (fun G R => by kernel_rfl) ?_
    unfold vq22
    try dsimp only
    simp only [Ty.dflt, Nat.zero_add, hk1, hni, htk]
    simp (disch := omega) only [wrG, sameK_iff, true_and, and_true, decide_eq_true_eq, decide_eq_false_iff_not, ne_eq, not_false_eq_true, Bool.false_eq_true, Bool.true_eq_false, false_implies, true_implies, Ty.dflt, reduceCtorEq, beq_iff_eq, bne_iff_ne, beq_eq_false_iff_ne, bne_eq_false_iff_eq, Bool.not_eq_true, Bool.not_eq_eq_eq_not, Bool.not_true, Bool.not_false, gt_iff_lt, ge_iff_le, Int.not_lt, Int.not_le]
    repeat' (first | with_reducible refine And.intro ?_ ?_ | intro _)
    all_goals first | rfl | omega | assumption | trivial | exact room3 (by omega) | (exfalso; simp_all; done) | (exfalso; omega) | skip
def vq23 (g : Gr) (S : List (Int × Bool × List Int)) (X : List (Int × Int)) (Y : List (Int × Int)) (A : List (Int × Int)) (E : List (Int × Int)) (i : Int) (N : List (Int × Bool × List Int)) (G : Nat → St → Prop) (R : D × List (Option Row) × List Row → Prop) : Prop := let yy0 := (Ty.int IntKind.i64); let yy1 := (N.getD (0 + i.toNat) (NK.mk 50 (yy0.prod (Ty.bool.prod yy0.sl)) 2 3 yy0).t.dflt); let yy2 := (Row.box 46 [D.v (Value.int IntKind.i64 g.h), D.v (Value.int IntKind.i64 g.w), D.sl false false Ty.bool g.B, D.sl false false Ty.bool g.R, D.sl false false Ty.bool g.L]); let yy3 := (Row.box 46 [D.v (Value.int IntKind.i64 g.h), D.v (Value.int IntKind.i64 g.w), D.own 8 0 g.B.length none, D.own 9 0 g.R.length none, D.own 10 0 g.L.length none]); let yy4 := (yy0.prod (Ty.bool.prod yy0.sl)); let yy5 := (yy0.prod yy0); (decide (i < (↑S.length : Int)) = true → (0 : Int) ≤ i ∧ i < (↑S.length : Int) ∧ 0 + i.toNat < N.length ∧ SameK (KK q8 1) (KK q8 1) ∧ G 1 (stOf 164 [1, 3, 4, 5, 6, 7, 8, 9, 10, 70, 71, 79, 80] [D.ptr 0 0 0, D.ptr 1 0 0, D.own 2 0 S.length none, D.own 3 0 S.length none, D.own 4 0 A.length none, D.own 5 0 E.length none, D.own 6 0 X.length none, D.own 7 0 Y.length none, D.v (Value.int IntKind.i64 i), D.v (Value.int IntKind.i64 (↑S.length : Int)), D.v (Value.int IntKind.i64 i), D.v (Value.int IntKind.i64 (↑(List.length yy1.snd.snd) : Int)), D.v (Value.int IntKind.i64 (0 : Int))] [Slot.live yy2, Slot.live yy3, Slot.live (Row.nest (NK.mk 50 yy4 2 3 yy0) (N.set (0 + i.toNat) (yy1.fst, yy1.snd.fst, List.take (List.length yy1.snd.snd) yy1.snd.snd)) none), Slot.live (Row.data 50 yy4 S), Slot.live (Row.data 61 yy5 A), Slot.live (Row.data 61 yy5 E), Slot.live (Row.data 61 yy5 X), Slot.live (Row.data 61 yy5 Y), Slot.live (Row.data 4 Ty.bool g.B), Slot.live (Row.data 4 Ty.bool g.R), Slot.live (Row.data 4 Ty.bool g.L)])) ∧ (decide (i < (↑S.length : Int)) = false → SameK (KK q8 2) (KK q8 2) ∧ G 2 (stOf 164 [1, 3, 4, 5, 6, 7, 8, 9, 111, 112] [D.ptr 0 0 0, D.ptr 1 0 0, D.own 2 0 S.length none, D.own 3 0 S.length none, D.own 4 0 A.length none, D.own 5 0 E.length none, D.own 6 0 X.length none, D.own 7 0 Y.length none, D.v (Value.int IntKind.i64 (↑S.length : Int)), D.v (Value.int IntKind.i64 (0 : Int))] [Slot.live yy2, Slot.live yy3, Slot.live (Row.nest (NK.mk 50 yy4 2 3 yy0) N none), Slot.live (Row.data 50 yy4 S), Slot.live (Row.data 61 yy5 A), Slot.live (Row.data 61 yy5 E), Slot.live (Row.data 61 yy5 X), Slot.live (Row.data 61 yy5 Y), Slot.live (Row.data 4 Ty.bool g.B), Slot.live (Row.data 4 Ty.bool g.R), Slot.live (Row.data 4 Ty.bool g.L)]))
theorem e8a (g : Gr) (S : List (Int × Bool × List Int)) (X Y A E : List (Int × Int)) (hSl : S.length ≤ 1000) (hc : ∀ j : Nat, j < S.length → (cellsAt S j).length ≤ 300) (hx : ∀ N, OverI S N S.length 0 → GetsK Tryd.prog Tryd.f8.results.toList [none] (KK q8) 0 (.v (.bool true), [], []) 2 (stOf 164 [1,3,4,5,6,7,8,9,111,112] [.ptr 0 0 0, .ptr 1 0 0, .own 2 0 S.length none, .own 3 0 S.length none, .own 4 0 A.length none, .own 5 0 E.length none, .own 6 0 X.length none, .own 7 0 Y.length none, .v (.int .i64 S.length), .v (.int .i64 0)] [.live (.box 46 [.v (.int .i64 g.h), .v (.int .i64 g.w), .sl false false .bool g.B, .sl false false .bool g.R, .sl false false .bool g.L]), .live (.box 46 [.v (.int .i64 g.h), .v (.int .i64 g.w), .own 8 0 g.B.length none, .own 9 0 g.R.length none, .own 10 0 g.L.length none]), .live (.nest kS N none), .live (.data 50 SlT S), .live (.data 61 SeT A), .live (.data 61 SeT E), .live (.data 61 SeT X), .live (.data 61 SeT Y), .live (.data 4 .bool g.B), .live (.data 4 .bool g.R), .live (.data 4 .bool g.L)])) (z : Nat) : ∀ (i : Int) (N : List (Int × Bool × List Int)), 0 ≤ i → i + z = S.length → OverI S N i.toNat 0 → GetsK Tryd.prog Tryd.f8.results.toList [none] (KK q8) 0 (.v (.bool true), [], []) 0 (stOf 164 [1,3,4,5,6,7,8,9,70,71] [.ptr 0 0 0, .ptr 1 0 0, .own 2 0 S.length none, .own 3 0 S.length none, .own 4 0 A.length none, .own 5 0 E.length none, .own 6 0 X.length none, .own 7 0 Y.length none, .v (.int .i64 S.length), .v (.int .i64 i)] [.live (.box 46 [.v (.int .i64 g.h), .v (.int .i64 g.w), .sl false false .bool g.B, .sl false false .bool g.R, .sl false false .bool g.L]), .live (.box 46 [.v (.int .i64 g.h), .v (.int .i64 g.w), .own 8 0 g.B.length none, .own 9 0 g.R.length none, .own 10 0 g.L.length none]), .live (.nest kS N none), .live (.data 50 SlT S), .live (.data 61 SeT A), .live (.data 61 SeT E), .live (.data 61 SeT X), .live (.data 61 SeT Y), .live (.data 4 .bool g.B), .live (.data 4 .bool g.R), .live (.data 4 .bool g.L)]) := by
  induction z with
  | zero =>
    intro i N i0 hi q
    have hit : i.toNat = S.length := by omega
    rw [hit] at q
    have h1 := hx N q
    refine gets_vc (flagS [2000078,2000087,2000097,2000119] spP) (fun k => [[1,3,4,5,6,7,8,9,70,71],[1,3,4,5,6,7,8,9,10,70,71,79,80],[1,3,4,5,6,7,8,9,111,112],[1,3,4,5,6,7,8,9,12,111,112,119,120,121],[1,3,5,6,7,8,9,132,133]].getD k []) (fun k => if k = 3 then [⟨9999, 0, .unit⟩] else []) 400 (.fork (.hd 1) (.hd 2)) (V := vq23 g S X Y A E i N) hmG (fun G R => by kernel_rfl) ?_
    unfold vq23
    try dsimp only
    simp (disch := omega) only [wrG, sameK_iff, true_and, and_true, decide_eq_true_eq, decide_eq_false_iff_not, ne_eq, not_false_eq_true, Bool.false_eq_true, Bool.true_eq_false, false_implies, true_implies, Ty.dflt, reduceCtorEq, beq_iff_eq, bne_iff_ne, beq_eq_false_iff_ne, bne_eq_false_iff_eq, Bool.not_eq_true, Bool.not_eq_eq_eq_not, Bool.not_true, Bool.not_false, gt_iff_lt, ge_iff_le, Int.not_lt, Int.not_le]
    repeat' (first | with_reducible refine And.intro ?_ ?_ | intro _)
    all_goals first | rfl | omega | assumption | trivial | exact room3 (by omega) | (exfalso; simp_all; done) | (exfalso; omega) | skip
  | succ z ih =>
    intro i N i0 hi q
    have hit : (i + 1).toNat = i.toNat + 1 := by omega
    have hlj := q.lens i.toNat (by omega)
    have hql := q.len
    have hcj := hc i.toNat (by omega)
    have hset : N.set i.toNat ((N.getD i.toNat (0, false, [])).1, (N.getD i.toNat (0, false, [])).2.1, (N.getD i.toNat (0, false, [])).2.2) = N := set_selfD (0, false, []) N i.toNat
    have h1 := e8b g S X Y A E i (cellsAt S i.toNat).length i0 (by omega) hSl rfl hcj (fun N' q' => ih (i + 1) N' (by omega) (by omega) (by rw [hit]; exact q')) (cellsAt S i.toNat).length 0 N (by omega) (by omega) q
    rw [← hlj] at h1
    unfold cellsAt at h1
    refine gets_vc (flagS [2000078,2000087,2000097,2000119] spP) (fun k => [[1,3,4,5,6,7,8,9,70,71],[1,3,4,5,6,7,8,9,10,70,71,79,80],[1,3,4,5,6,7,8,9,111,112],[1,3,4,5,6,7,8,9,12,111,112,119,120,121],[1,3,5,6,7,8,9,132,133]].getD k []) (fun k => if k = 3 then [⟨9999, 0, .unit⟩] else []) 400 (.fork (.hd 1) (.hd 2)) (V := vq23 g S X Y A E i N) hmG (fun G R => by kernel_rfl) ?_
    unfold vq23
    try dsimp only
    simp only [Ty.dflt, Nat.zero_add, List.take_length, hset]
    simp (disch := omega) only [wrG, sameK_iff, true_and, and_true, decide_eq_true_eq, decide_eq_false_iff_not, ne_eq, not_false_eq_true, Bool.false_eq_true, Bool.true_eq_false, false_implies, true_implies, Ty.dflt, reduceCtorEq, beq_iff_eq, bne_iff_ne, beq_eq_false_iff_ne, bne_eq_false_iff_eq, Bool.not_eq_true, Bool.not_eq_eq_eq_not, Bool.not_true, Bool.not_false, gt_iff_lt, ge_iff_le, Int.not_lt, Int.not_le]
    repeat' (first | with_reducible refine And.intro ?_ ?_ | intro _)
    all_goals first | rfl | omega | assumption | trivial | exact room3 (by omega) | (exfalso; simp_all; done) | (exfalso; omega) | skip
theorem d8 (g : Gr) (F : g.fits) : Con Tryd.prog 8 [] [g.d] (.v (.bool true)) [] [] := by
  refine con_vc (how := [none]) (c := q8) (K := (KK q8)) (flagS [2000078,2000087,2000097,2000119] spP) (fun k => [[1,3,4,5,6,7,8,9,70,71],[1,3,4,5,6,7,8,9,10,70,71,79,80],[1,3,4,5,6,7,8,9,111,112],[1,3,4,5,6,7,8,9,12,111,112,119,120,121],[1,3,5,6,7,8,9,132,133]].getD k []) (fun k => if k = 3 then [⟨9999, 0, .unit⟩] else []) 400 (.fork .stop (.fork .stop (.fork (.t (.t .stop)) (.fork (.t .stop) (.fork .stop (.hd 0)))))) (V := fun G R => let yy0 := (Ty.int IntKind.i64); let yy1 := (yy0.prod (Ty.bool.prod yy0.sl)); let yy2 := (List.drop 0 (seatsF g).fst); let yy3 := (List.drop 0 (seatsF g).snd); let yy4 := (yy0.prod yy0); let yy5 := (List.drop 0 (slotsF g)); let yy6 := (Value.int IntKind.i64 g.h); let yy7 := (Value.int IntKind.i64 g.w); Con Tryd.prog 35 [] [] (D.v (Value.bool true)) [] [] ∧ ((!true) = true → R (D.v (Value.bool false), [], [])) ∧ ((!true) = false → roomy Tryd.prog 4 (0 + g.B.length) ∧ roomy Tryd.prog 4 (0 + g.R.length) ∧ roomy Tryd.prog 4 (0 + g.L.length) ∧ Con Tryd.prog 36 [] [D.agg [D.v (Value.int IntKind.i64 (Gr.mk g.h g.w (List.take 0 (List.drop 0 []) ++ g.B) (List.take 0 (List.drop 0 []) ++ g.R) (List.take 0 (List.drop 0 []) ++ g.L)).h), D.v (Value.int IntKind.i64 (Gr.mk g.h g.w (List.take 0 (List.drop 0 []) ++ g.B) (List.take 0 (List.drop 0 []) ++ g.R) (List.take 0 (List.drop 0 []) ++ g.L)).w), D.sl false false Ty.bool (Gr.mk g.h g.w (List.take 0 (List.drop 0 []) ++ g.B) (List.take 0 (List.drop 0 []) ++ g.R) (List.take 0 (List.drop 0 []) ++ g.L)).B, D.sl false false Ty.bool (Gr.mk g.h g.w (List.take 0 (List.drop 0 []) ++ g.B) (List.take 0 (List.drop 0 []) ++ g.R) (List.take 0 (List.drop 0 []) ++ g.L)).R, D.sl false false Ty.bool (Gr.mk g.h g.w (List.take 0 (List.drop 0 []) ++ g.B) (List.take 0 (List.drop 0 []) ++ g.R) (List.take 0 (List.drop 0 []) ++ g.L)).L]] (D.own 0 0 (slotsF (Gr.mk g.h g.w (List.take 0 (List.drop 0 []) ++ g.B) (List.take 0 (List.drop 0 []) ++ g.R) (List.take 0 (List.drop 0 []) ++ g.L))).length none) [] [Row.nest (NK.mk 50 yy1 2 3 yy0) (slotsF (Gr.mk g.h g.w (List.take 0 (List.drop 0 []) ++ g.B) (List.take 0 (List.drop 0 []) ++ g.R) (List.take 0 (List.drop 0 []) ++ g.L))) none] ∧ Value.int IntKind.i64 g.h = Value.int IntKind.i64 (Gr.mk g.h g.w (List.take 0 (List.drop 0 []) ++ g.B) (List.take 0 (List.drop 0 []) ++ g.R) (List.take 0 (List.drop 0 []) ++ g.L)).h ∧ Value.int IntKind.i64 g.w = Value.int IntKind.i64 (Gr.mk g.h g.w (List.take 0 (List.drop 0 []) ++ g.B) (List.take 0 (List.drop 0 []) ++ g.R) (List.take 0 (List.drop 0 []) ++ g.L)).w ∧ List.take (0 + g.B.length) (List.drop 0 (List.take 0 (List.drop 0 []) ++ g.B)) = (Gr.mk g.h g.w (List.take 0 (List.drop 0 []) ++ g.B) (List.take 0 (List.drop 0 []) ++ g.R) (List.take 0 (List.drop 0 []) ++ g.L)).B ∧ List.take (0 + g.R.length) (List.drop 0 (List.take 0 (List.drop 0 []) ++ g.R)) = (Gr.mk g.h g.w (List.take 0 (List.drop 0 []) ++ g.B) (List.take 0 (List.drop 0 []) ++ g.R) (List.take 0 (List.drop 0 []) ++ g.L)).R ∧ List.take (0 + g.L.length) (List.drop 0 (List.take 0 (List.drop 0 []) ++ g.L)) = (Gr.mk g.h g.w (List.take 0 (List.drop 0 []) ++ g.B) (List.take 0 (List.drop 0 []) ++ g.R) (List.take 0 (List.drop 0 []) ++ g.L)).L ∧ Con Tryd.prog 38 [] [D.agg [D.v yy6, D.v yy7, D.sl false false Ty.bool g.B, D.sl false false Ty.bool g.R, D.sl false false Ty.bool g.L]] (D.own 0 0 (slotsF g).length none) [] [Row.data 50 yy1 (slotsF g)] ∧ Value.int IntKind.i64 g.h = Value.int IntKind.i64 g.h ∧ Value.int IntKind.i64 g.w = Value.int IntKind.i64 g.w ∧ g.B = g.B ∧ g.R = g.R ∧ g.L = g.L ∧ Con Tryd.prog 39 [] [D.sl false false yy1 (List.take (slotsF (Gr.mk g.h g.w (List.take 0 (List.drop 0 []) ++ g.B) (List.take 0 (List.drop 0 []) ++ g.R) (List.take 0 (List.drop 0 []) ++ g.L))).length (List.drop 0 (slotsF (Gr.mk g.h g.w (List.take 0 (List.drop 0 []) ++ g.B) (List.take 0 (List.drop 0 []) ++ g.R) (List.take 0 (List.drop 0 []) ++ g.L))))), D.sl false false yy1 (List.take (slotsF g).length yy5)] (D.v (Value.bool (decide (List.take (slotsF (Gr.mk g.h g.w (List.take 0 (List.drop 0 []) ++ g.B) (List.take 0 (List.drop 0 []) ++ g.R) (List.take 0 (List.drop 0 []) ++ g.L))).length (List.drop 0 (slotsF (Gr.mk g.h g.w (List.take 0 (List.drop 0 []) ++ g.B) (List.take 0 (List.drop 0 []) ++ g.R) (List.take 0 (List.drop 0 []) ++ g.L)))) = List.take (slotsF g).length yy5)))) [] [] ∧ List.take (slotsF (Gr.mk g.h g.w (List.take 0 (List.drop 0 []) ++ g.B) (List.take 0 (List.drop 0 []) ++ g.R) (List.take 0 (List.drop 0 []) ++ g.L))).length (List.drop 0 (slotsF (Gr.mk g.h g.w (List.take 0 (List.drop 0 []) ++ g.B) (List.take 0 (List.drop 0 []) ++ g.R) (List.take 0 (List.drop 0 []) ++ g.L)))) = List.take (slotsF (Gr.mk g.h g.w (List.take 0 (List.drop 0 []) ++ g.B) (List.take 0 (List.drop 0 []) ++ g.R) (List.take 0 (List.drop 0 []) ++ g.L))).length (List.drop 0 (slotsF (Gr.mk g.h g.w (List.take 0 (List.drop 0 []) ++ g.B) (List.take 0 (List.drop 0 []) ++ g.R) (List.take 0 (List.drop 0 []) ++ g.L)))) ∧ List.take (slotsF g).length yy5 = List.take (slotsF g).length yy5 ∧ ((!decide (List.take (slotsF (Gr.mk g.h g.w (List.take 0 (List.drop 0 []) ++ g.B) (List.take 0 (List.drop 0 []) ++ g.R) (List.take 0 (List.drop 0 []) ++ g.L))).length (List.drop 0 (slotsF (Gr.mk g.h g.w (List.take 0 (List.drop 0 []) ++ g.B) (List.take 0 (List.drop 0 []) ++ g.R) (List.take 0 (List.drop 0 []) ++ g.L)))) = List.take (slotsF g).length yy5)) = true → R (D.v (Value.bool false), [], [])) ∧ ((!decide (List.take (slotsF (Gr.mk g.h g.w (List.take 0 (List.drop 0 []) ++ g.B) (List.take 0 (List.drop 0 []) ++ g.R) (List.take 0 (List.drop 0 []) ++ g.L))).length (List.drop 0 (slotsF (Gr.mk g.h g.w (List.take 0 (List.drop 0 []) ++ g.B) (List.take 0 (List.drop 0 []) ++ g.R) (List.take 0 (List.drop 0 []) ++ g.L)))) = List.take (slotsF g).length yy5)) = false → Con Tryd.prog 40 [] [D.agg [D.v (Value.int IntKind.i64 (Gr.mk g.h g.w (List.take 0 (List.drop 0 []) ++ g.B) (List.take 0 (List.drop 0 []) ++ g.R) (List.take 0 (List.drop 0 []) ++ g.L)).h), D.v (Value.int IntKind.i64 (Gr.mk g.h g.w (List.take 0 (List.drop 0 []) ++ g.B) (List.take 0 (List.drop 0 []) ++ g.R) (List.take 0 (List.drop 0 []) ++ g.L)).w), D.sl false false Ty.bool (Gr.mk g.h g.w (List.take 0 (List.drop 0 []) ++ g.B) (List.take 0 (List.drop 0 []) ++ g.R) (List.take 0 (List.drop 0 []) ++ g.L)).B, D.sl false false Ty.bool (Gr.mk g.h g.w (List.take 0 (List.drop 0 []) ++ g.B) (List.take 0 (List.drop 0 []) ++ g.R) (List.take 0 (List.drop 0 []) ++ g.L)).R, D.sl false false Ty.bool (Gr.mk g.h g.w (List.take 0 (List.drop 0 []) ++ g.B) (List.take 0 (List.drop 0 []) ++ g.R) (List.take 0 (List.drop 0 []) ++ g.L)).L]] (D.tup [D.own 0 0 (seatsF (Gr.mk g.h g.w (List.take 0 (List.drop 0 []) ++ g.B) (List.take 0 (List.drop 0 []) ++ g.R) (List.take 0 (List.drop 0 []) ++ g.L))).fst.length none, D.own 1 0 (seatsF (Gr.mk g.h g.w (List.take 0 (List.drop 0 []) ++ g.B) (List.take 0 (List.drop 0 []) ++ g.R) (List.take 0 (List.drop 0 []) ++ g.L))).snd.length none]) [] [Row.data 61 yy4 (seatsF (Gr.mk g.h g.w (List.take 0 (List.drop 0 []) ++ g.B) (List.take 0 (List.drop 0 []) ++ g.R) (List.take 0 (List.drop 0 []) ++ g.L))).fst, Row.data 61 yy4 (seatsF (Gr.mk g.h g.w (List.take 0 (List.drop 0 []) ++ g.B) (List.take 0 (List.drop 0 []) ++ g.R) (List.take 0 (List.drop 0 []) ++ g.L))).snd] ∧ Value.int IntKind.i64 g.h = Value.int IntKind.i64 (Gr.mk g.h g.w (List.take 0 (List.drop 0 []) ++ g.B) (List.take 0 (List.drop 0 []) ++ g.R) (List.take 0 (List.drop 0 []) ++ g.L)).h ∧ Value.int IntKind.i64 g.w = Value.int IntKind.i64 (Gr.mk g.h g.w (List.take 0 (List.drop 0 []) ++ g.B) (List.take 0 (List.drop 0 []) ++ g.R) (List.take 0 (List.drop 0 []) ++ g.L)).w ∧ List.take (0 + g.B.length) (List.drop 0 (List.take 0 (List.drop 0 []) ++ g.B)) = (Gr.mk g.h g.w (List.take 0 (List.drop 0 []) ++ g.B) (List.take 0 (List.drop 0 []) ++ g.R) (List.take 0 (List.drop 0 []) ++ g.L)).B ∧ List.take (0 + g.R.length) (List.drop 0 (List.take 0 (List.drop 0 []) ++ g.R)) = (Gr.mk g.h g.w (List.take 0 (List.drop 0 []) ++ g.B) (List.take 0 (List.drop 0 []) ++ g.R) (List.take 0 (List.drop 0 []) ++ g.L)).R ∧ List.take (0 + g.L.length) (List.drop 0 (List.take 0 (List.drop 0 []) ++ g.L)) = (Gr.mk g.h g.w (List.take 0 (List.drop 0 []) ++ g.B) (List.take 0 (List.drop 0 []) ++ g.R) (List.take 0 (List.drop 0 []) ++ g.L)).L ∧ Con Tryd.prog 41 [] [D.agg [D.v yy6, D.v yy7, D.sl false false Ty.bool g.B, D.sl false false Ty.bool g.R, D.sl false false Ty.bool g.L]] (D.tup [D.own 0 0 (seatsF g).fst.length none, D.own 1 0 (seatsF g).snd.length none]) [] [Row.data 61 yy4 (seatsF g).fst, Row.data 61 yy4 (seatsF g).snd] ∧ Value.int IntKind.i64 g.h = Value.int IntKind.i64 g.h ∧ Value.int IntKind.i64 g.w = Value.int IntKind.i64 g.w ∧ g.B = g.B ∧ g.R = g.R ∧ g.L = g.L ∧ Con Tryd.prog 42 [] [D.sl false false yy4 (List.take (seatsF (Gr.mk g.h g.w (List.take 0 (List.drop 0 []) ++ g.B) (List.take 0 (List.drop 0 []) ++ g.R) (List.take 0 (List.drop 0 []) ++ g.L))).fst.length (List.drop 0 (seatsF (Gr.mk g.h g.w (List.take 0 (List.drop 0 []) ++ g.B) (List.take 0 (List.drop 0 []) ++ g.R) (List.take 0 (List.drop 0 []) ++ g.L))).fst)), D.sl false false yy4 (List.take (seatsF g).fst.length yy2)] (D.v (Value.bool (decide (List.take (seatsF (Gr.mk g.h g.w (List.take 0 (List.drop 0 []) ++ g.B) (List.take 0 (List.drop 0 []) ++ g.R) (List.take 0 (List.drop 0 []) ++ g.L))).fst.length (List.drop 0 (seatsF (Gr.mk g.h g.w (List.take 0 (List.drop 0 []) ++ g.B) (List.take 0 (List.drop 0 []) ++ g.R) (List.take 0 (List.drop 0 []) ++ g.L))).fst) = List.take (seatsF g).fst.length yy2)))) [] [] ∧ List.take (seatsF (Gr.mk g.h g.w (List.take 0 (List.drop 0 []) ++ g.B) (List.take 0 (List.drop 0 []) ++ g.R) (List.take 0 (List.drop 0 []) ++ g.L))).fst.length (List.drop 0 (seatsF (Gr.mk g.h g.w (List.take 0 (List.drop 0 []) ++ g.B) (List.take 0 (List.drop 0 []) ++ g.R) (List.take 0 (List.drop 0 []) ++ g.L))).fst) = List.take (seatsF (Gr.mk g.h g.w (List.take 0 (List.drop 0 []) ++ g.B) (List.take 0 (List.drop 0 []) ++ g.R) (List.take 0 (List.drop 0 []) ++ g.L))).fst.length (List.drop 0 (seatsF (Gr.mk g.h g.w (List.take 0 (List.drop 0 []) ++ g.B) (List.take 0 (List.drop 0 []) ++ g.R) (List.take 0 (List.drop 0 []) ++ g.L))).fst) ∧ List.take (seatsF g).fst.length yy2 = List.take (seatsF g).fst.length yy2 ∧ ((!decide (List.take (seatsF (Gr.mk g.h g.w (List.take 0 (List.drop 0 []) ++ g.B) (List.take 0 (List.drop 0 []) ++ g.R) (List.take 0 (List.drop 0 []) ++ g.L))).fst.length (List.drop 0 (seatsF (Gr.mk g.h g.w (List.take 0 (List.drop 0 []) ++ g.B) (List.take 0 (List.drop 0 []) ++ g.R) (List.take 0 (List.drop 0 []) ++ g.L))).fst) = List.take (seatsF g).fst.length yy2)) = true → true = true ∧ true = true ∧ R (D.v (Value.bool false), [], [])) ∧ ((!decide (List.take (seatsF (Gr.mk g.h g.w (List.take 0 (List.drop 0 []) ++ g.B) (List.take 0 (List.drop 0 []) ++ g.R) (List.take 0 (List.drop 0 []) ++ g.L))).fst.length (List.drop 0 (seatsF (Gr.mk g.h g.w (List.take 0 (List.drop 0 []) ++ g.B) (List.take 0 (List.drop 0 []) ++ g.R) (List.take 0 (List.drop 0 []) ++ g.L))).fst) = List.take (seatsF g).fst.length yy2)) = false → Con Tryd.prog 42 [] [D.sl false false yy4 (List.take (seatsF (Gr.mk g.h g.w (List.take 0 (List.drop 0 []) ++ g.B) (List.take 0 (List.drop 0 []) ++ g.R) (List.take 0 (List.drop 0 []) ++ g.L))).snd.length (List.drop 0 (seatsF (Gr.mk g.h g.w (List.take 0 (List.drop 0 []) ++ g.B) (List.take 0 (List.drop 0 []) ++ g.R) (List.take 0 (List.drop 0 []) ++ g.L))).snd)), D.sl false false yy4 (List.take (seatsF g).snd.length yy3)] (D.v (Value.bool (decide (List.take (seatsF (Gr.mk g.h g.w (List.take 0 (List.drop 0 []) ++ g.B) (List.take 0 (List.drop 0 []) ++ g.R) (List.take 0 (List.drop 0 []) ++ g.L))).snd.length (List.drop 0 (seatsF (Gr.mk g.h g.w (List.take 0 (List.drop 0 []) ++ g.B) (List.take 0 (List.drop 0 []) ++ g.R) (List.take 0 (List.drop 0 []) ++ g.L))).snd) = List.take (seatsF g).snd.length yy3)))) [] [] ∧ List.take (seatsF (Gr.mk g.h g.w (List.take 0 (List.drop 0 []) ++ g.B) (List.take 0 (List.drop 0 []) ++ g.R) (List.take 0 (List.drop 0 []) ++ g.L))).snd.length (List.drop 0 (seatsF (Gr.mk g.h g.w (List.take 0 (List.drop 0 []) ++ g.B) (List.take 0 (List.drop 0 []) ++ g.R) (List.take 0 (List.drop 0 []) ++ g.L))).snd) = List.take (seatsF (Gr.mk g.h g.w (List.take 0 (List.drop 0 []) ++ g.B) (List.take 0 (List.drop 0 []) ++ g.R) (List.take 0 (List.drop 0 []) ++ g.L))).snd.length (List.drop 0 (seatsF (Gr.mk g.h g.w (List.take 0 (List.drop 0 []) ++ g.B) (List.take 0 (List.drop 0 []) ++ g.R) (List.take 0 (List.drop 0 []) ++ g.L))).snd) ∧ List.take (seatsF g).snd.length yy3 = List.take (seatsF g).snd.length yy3 ∧ ((!decide (List.take (seatsF (Gr.mk g.h g.w (List.take 0 (List.drop 0 []) ++ g.B) (List.take 0 (List.drop 0 []) ++ g.R) (List.take 0 (List.drop 0 []) ++ g.L))).snd.length (List.drop 0 (seatsF (Gr.mk g.h g.w (List.take 0 (List.drop 0 []) ++ g.B) (List.take 0 (List.drop 0 []) ++ g.R) (List.take 0 (List.drop 0 []) ++ g.L))).snd) = List.take (seatsF g).snd.length yy3)) = true → true = true ∧ R (D.v (Value.bool false), [], [])) ∧ ((!decide (List.take (seatsF (Gr.mk g.h g.w (List.take 0 (List.drop 0 []) ++ g.B) (List.take 0 (List.drop 0 []) ++ g.R) (List.take 0 (List.drop 0 []) ++ g.L))).snd.length (List.drop 0 (seatsF (Gr.mk g.h g.w (List.take 0 (List.drop 0 []) ++ g.B) (List.take 0 (List.drop 0 []) ++ g.R) (List.take 0 (List.drop 0 []) ++ g.L))).snd) = List.take (seatsF g).snd.length yy3)) = false → Con Tryd.prog 43 [] [D.agg [D.v (Value.int IntKind.i64 (Gr.mk g.h g.w (List.take 0 (List.drop 0 []) ++ g.B) (List.take 0 (List.drop 0 []) ++ g.R) (List.take 0 (List.drop 0 []) ++ g.L)).h), D.v (Value.int IntKind.i64 (Gr.mk g.h g.w (List.take 0 (List.drop 0 []) ++ g.B) (List.take 0 (List.drop 0 []) ++ g.R) (List.take 0 (List.drop 0 []) ++ g.L)).w), D.sl false false Ty.bool (Gr.mk g.h g.w (List.take 0 (List.drop 0 []) ++ g.B) (List.take 0 (List.drop 0 []) ++ g.R) (List.take 0 (List.drop 0 []) ++ g.L)).B, D.sl false false Ty.bool (Gr.mk g.h g.w (List.take 0 (List.drop 0 []) ++ g.B) (List.take 0 (List.drop 0 []) ++ g.R) (List.take 0 (List.drop 0 []) ++ g.L)).R, D.sl false false Ty.bool (Gr.mk g.h g.w (List.take 0 (List.drop 0 []) ++ g.B) (List.take 0 (List.drop 0 []) ++ g.R) (List.take 0 (List.drop 0 []) ++ g.L)).L], D.agg [D.v yy6, D.v yy7, D.sl false false Ty.bool g.B, D.sl false false Ty.bool g.R, D.sl false false Ty.bool g.L]] (D.v (Value.bool (decide (Gr.mk g.h g.w (List.take 0 (List.drop 0 []) ++ g.B) (List.take 0 (List.drop 0 []) ++ g.R) (List.take 0 (List.drop 0 []) ++ g.L) = Gr.mk g.h g.w g.B g.R g.L)))) [] [] ∧ Value.int IntKind.i64 g.h = Value.int IntKind.i64 (Gr.mk g.h g.w (List.take 0 (List.drop 0 []) ++ g.B) (List.take 0 (List.drop 0 []) ++ g.R) (List.take 0 (List.drop 0 []) ++ g.L)).h ∧ Value.int IntKind.i64 g.w = Value.int IntKind.i64 (Gr.mk g.h g.w (List.take 0 (List.drop 0 []) ++ g.B) (List.take 0 (List.drop 0 []) ++ g.R) (List.take 0 (List.drop 0 []) ++ g.L)).w ∧ List.take (0 + g.B.length) (List.drop 0 (List.take 0 (List.drop 0 []) ++ g.B)) = (Gr.mk g.h g.w (List.take 0 (List.drop 0 []) ++ g.B) (List.take 0 (List.drop 0 []) ++ g.R) (List.take 0 (List.drop 0 []) ++ g.L)).B ∧ List.take (0 + g.R.length) (List.drop 0 (List.take 0 (List.drop 0 []) ++ g.R)) = (Gr.mk g.h g.w (List.take 0 (List.drop 0 []) ++ g.B) (List.take 0 (List.drop 0 []) ++ g.R) (List.take 0 (List.drop 0 []) ++ g.L)).R ∧ List.take (0 + g.L.length) (List.drop 0 (List.take 0 (List.drop 0 []) ++ g.L)) = (Gr.mk g.h g.w (List.take 0 (List.drop 0 []) ++ g.B) (List.take 0 (List.drop 0 []) ++ g.R) (List.take 0 (List.drop 0 []) ++ g.L)).L ∧ Value.int IntKind.i64 g.h = Value.int IntKind.i64 g.h ∧ Value.int IntKind.i64 g.w = Value.int IntKind.i64 g.w ∧ g.B = g.B ∧ g.R = g.R ∧ g.L = g.L ∧ ((!decide (Gr.mk g.h g.w (List.take 0 (List.drop 0 []) ++ g.B) (List.take 0 (List.drop 0 []) ++ g.R) (List.take 0 (List.drop 0 []) ++ g.L) = Gr.mk g.h g.w g.B g.R g.L)) = true → R (D.v (Value.bool false), [], [])) ∧ ((!decide (Gr.mk g.h g.w (List.take 0 (List.drop 0 []) ++ g.B) (List.take 0 (List.drop 0 []) ++ g.R) (List.take 0 (List.drop 0 []) ++ g.L) = Gr.mk g.h g.w g.B g.R g.L)) = false → SameK (KK q8 0) (KK q8 0) ∧ G 0 (stOf 164 [1, 3, 4, 5, 6, 7, 8, 9, 70, 71] [D.ptr 0 0 0, D.ptr 1 0 0, D.own 2 0 (slotsF (Gr.mk g.h g.w (List.take 0 (List.drop 0 []) ++ g.B) (List.take 0 (List.drop 0 []) ++ g.R) (List.take 0 (List.drop 0 []) ++ g.L))).length none, D.own 3 0 (slotsF g).length none, D.own 4 0 (seatsF (Gr.mk g.h g.w (List.take 0 (List.drop 0 []) ++ g.B) (List.take 0 (List.drop 0 []) ++ g.R) (List.take 0 (List.drop 0 []) ++ g.L))).fst.length none, D.own 5 0 (seatsF (Gr.mk g.h g.w (List.take 0 (List.drop 0 []) ++ g.B) (List.take 0 (List.drop 0 []) ++ g.R) (List.take 0 (List.drop 0 []) ++ g.L))).snd.length none, D.own 6 0 (seatsF g).fst.length none, D.own 7 0 (seatsF g).snd.length none, D.v (Value.int IntKind.i64 (↑(slotsF (Gr.mk g.h g.w (List.take 0 (List.drop 0 []) ++ g.B) (List.take 0 (List.drop 0 []) ++ g.R) (List.take 0 (List.drop 0 []) ++ g.L))).length : Int)), D.v (Value.int IntKind.i64 (0 : Int))] [Slot.live (Row.box 46 [D.v yy6, D.v yy7, D.sl false false Ty.bool g.B, D.sl false false Ty.bool g.R, D.sl false false Ty.bool g.L]), Slot.live (Row.box 46 [D.v yy6, D.v yy7, D.own 8 0 (0 + g.B.length) none, D.own 9 0 (0 + g.R.length) none, D.own 10 0 (0 + g.L.length) none]), Slot.live (Row.nest (NK.mk 50 yy1 2 3 yy0) (slotsF (Gr.mk g.h g.w (List.take 0 (List.drop 0 []) ++ g.B) (List.take 0 (List.drop 0 []) ++ g.R) (List.take 0 (List.drop 0 []) ++ g.L))) none), Slot.live (Row.data 50 yy1 (slotsF g)), Slot.live (Row.data 61 yy4 (seatsF (Gr.mk g.h g.w (List.take 0 (List.drop 0 []) ++ g.B) (List.take 0 (List.drop 0 []) ++ g.R) (List.take 0 (List.drop 0 []) ++ g.L))).fst), Slot.live (Row.data 61 yy4 (seatsF (Gr.mk g.h g.w (List.take 0 (List.drop 0 []) ++ g.B) (List.take 0 (List.drop 0 []) ++ g.R) (List.take 0 (List.drop 0 []) ++ g.L))).snd), Slot.live (Row.data 61 yy4 (seatsF g).fst), Slot.live (Row.data 61 yy4 (seatsF g).snd), Slot.live (Row.data 4 Ty.bool (List.take 0 (List.drop 0 []) ++ g.B)), Slot.live (Row.data 4 Ty.bool (List.take 0 (List.drop 0 []) ++ g.R)), Slot.live (Row.data 4 Ty.bool (List.take 0 (List.drop 0 []) ++ g.L))]))))))) hmG Tryd.func8 (by kernel_rfl) (by kernel_rfl) (fun G R => by kernel_rfl) ?_
  try dsimp only
  try dsimp only
  have c35 := d35
  have c36 := d36n g
  have c38 := d100 g
  have c40 := d77 g
  have c41 := d41D g
  obtain ⟨f1, f2, f3, f4⟩ := slots_few (g := g)
  obtain ⟨S, hS⟩ : ∃ S, slotsF g = S := ⟨_, rfl⟩
  obtain ⟨A, E, hA⟩ : ∃ A E, seatsF g = (A, E) := ⟨_, _, rfl⟩
  rw [hS] at f1 f2 c36 c38
  rw [hA] at f3 f4 c40 c41
  simp only at f3 f4 c40 c41
  have c39 := d39D S S (by omega) (fun s hs => by have := f2 s hs; omega)
  have c42 := d42D A A (by omega)
  have c42' := d42D E E (by omega)
  have c43 := d34 g g (fits_small F)
  simp only [decide_true] at c39 c42 c42' c43
  obtain ⟨b1, b2, b3⟩ := F
  have hcc : ∀ j : Nat, j < S.length → (cellsAt S j).length ≤ 300 := fun j hj => f2 _ (getD_inD hj)
  have hxx := e8a g S A E A E f1 hcc (fun N q => e8c g S N A E A E f1 hcc q (e8f g S A E A E f4 f3 hS f1 f2 hA f4 (by omega) A.length 0 A E (by omega) (by omega) rfl f3) S.length 0 (by omega) (by omega)) S.length 0 S (by omega) (by omega) (over_new S)
  have hg : Gr.mk g.h g.w g.B g.R g.L = g := rfl
  simp only [take_len, List.drop_zero, List.take_length, Nat.zero_add, List.length_set, List.take_zero, List.nil_append, hg]
  simp only [hS, hA, decide_true, Bool.not_true, List.take_length]
  simp (disch := omega) only [wrG, sameK_iff, true_and, and_true, decide_eq_true_eq, decide_eq_false_iff_not, ne_eq, not_false_eq_true, Bool.false_eq_true, Bool.true_eq_false, false_implies, true_implies, Ty.dflt, reduceCtorEq, beq_iff_eq, bne_iff_ne, beq_eq_false_iff_ne, bne_eq_false_iff_eq, Bool.not_eq_true, Bool.not_eq_eq_eq_not, Bool.not_true, Bool.not_false, gt_iff_lt, ge_iff_le, Int.not_lt, Int.not_le]
  repeat' (first | with_reducible refine And.intro ?_ ?_ | intro _)
  all_goals first | rfl | omega | assumption | trivial | exact room4 (by omega) | (exfalso; simp_all; done) | (exfalso; omega) | skip
end Go.Proofs.YtnakmganodkliaaDoorAm
