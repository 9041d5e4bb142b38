/- Seats, as plain laws: a cell sits in one slot of a direction at most, and at one place. -/
import Derived.Test.YtnakmganodkliaaDoorSlE0
set_option linter.unusedVariables false
set_option linter.unusedSimpArgs false
set_option maxRecDepth 100000
namespace Go.Proofs.YtnakmganodkliaaDoorAm
open Go

def dirI (d : Bool) : Int := if d then 1 else 0

theorem dir_in (d : Bool) : dirI d = 0 ∨ dirI d = 1 := by cases d <;> simp [dirI]

/-- What a slot of the list is. -/
structure IsRun (g : Gr) (x : Int × Bool × List Int) : Prop where
  run : ∃ i, 0 ≤ i ∧ x.2.2 = runOn g (dirI x.2.1) i ∧ beginsB g i (dirI x.2.1) = true

theorem slots_runs {g : Gr} : ∀ (m : Nat) (i num : Int), 0 ≤ i → ∀ x ∈ slotsFrom g m i num, IsRun g x ∧ i ≤ x.2.2.getD 0 0
  | 0, _, _, _, x, h => by simp [slotsFrom] at h
  | m + 1, i, num, i0, x, h => by
    simp only [slotsFrom, List.mem_append] at h
    rcases h with h | h | h
    · split at h
      · rename_i hb; rw [List.mem_singleton.1 h]; exact ⟨⟨i, i0, rfl, hb⟩, Int.le_refl _⟩
      · simp at h
    · split at h
      · rename_i hb; rw [List.mem_singleton.1 h]; exact ⟨⟨i, i0, rfl, hb⟩, Int.le_refl _⟩
      · simp at h
    · obtain ⟨a, b⟩ := slots_runs m (i + 1) _ (by omega) x h
      exact ⟨a, by omega⟩

/-- Slots of one direction begin at rising cells. -/
theorem slots_rise {g : Gr} : ∀ (m : Nat) (i num : Int), 0 ≤ i → (slotsFrom g m i num).Pairwise fun a b => a.2.1 = b.2.1 → a.2.2.getD 0 0 < b.2.2.getD 0 0
  | 0, _, _, _ => by simp [slotsFrom]
  | m + 1, i, num, i0 => by
    have ih := slots_rise (g := g) m (i + 1) (if beginsB g i 0 || beginsB g i 1 then num + 1 else num) (by omega)
    have hr := fun x hx => (slots_runs (g := g) m (i + 1) (if beginsB g i 0 || beginsB g i 1 then num + 1 else num) (by omega) x hx).2
    have h1 : ∀ (n : Int) (d : Bool) (y : Int), ∀ b ∈ slotsFrom g m (i + 1) (if beginsB g i 0 || beginsB g i 1 then num + 1 else num), ((n, d, runOn g y i) : Int × Bool × List Int).2.1 = b.2.1 → ((n, d, runOn g y i) : Int × Bool × List Int).2.2.getD 0 0 < b.2.2.getD 0 0 := by
      intro n d y b hb _
      have := hr b hb
      show i < _
      omega
    simp only [slotsFrom]
    refine List.pairwise_append.2 ⟨?_, List.pairwise_append.2 ⟨?_, ih, ?_⟩, ?_⟩
    · split <;> simp
    · split <;> simp
    · intro a ha b hb
      split at ha
      · rw [List.mem_singleton.1 ha]; exact h1 _ _ _ b hb
      · simp at ha
    · intro a ha b hb
      split at ha
      · rw [List.mem_singleton.1 ha]
        rcases List.mem_append.1 hb with hb | hb
        · split at hb
          · rw [List.mem_singleton.1 hb]
            intro h; cases h
          · simp at hb
        · exact h1 _ _ _ b hb
      · simp at ha

/-- A run's cells, one step behind the other. -/
theorem run_at {g : Gr} {y : Int} (hy : y = 0 ∨ y = 1) : ∀ (m : Nat) (i : Int) (k : Nat), k + 1 < (i :: onT g y m i).length → stepF g ((i :: onT g y m i).getD k 0) y = ((i :: onT g y m i).getD (k + 1) 0, true)
  | 0, i, k, h => by simp [onT] at h
  | m + 1, i, k, h => by
    rcases Bool.eq_false_or_eq_true (stepF g i y).2 with hs | hs
    · have e : onT g y (m + 1) i = (stepF g i y).1 :: onT g y m (stepF g i y).1 := by
        show (if _ then _ else _) = _
        rw [if_pos hs]
      rw [e] at h ⊢
      cases k with
      | zero => exact Prod.ext rfl hs
      | succ k =>
        simp only [List.length_cons] at h
        exact run_at hy m (stepF g i y).1 k (by simp only [List.length_cons]; omega)
    · have e : onT g y (m + 1) i = [] := by
        show (if _ then _ else _) = _
        rw [hs]
        rfl
      rw [e] at h
      simp at h

/-- A step on is a step back. -/
theorem step_inv {g : Gr} {i j y : Int} (hy : y = 0 ∨ y = 1) (h : stepF g i y = (j, true)) : stepF g j (y + 2) = (i, true) := by
  have hf := step_facts (g := g) (i := i) (y := y) (by rw [h])
  have h2 := hf.2.2.2.2.2.2
  rw [h] at h2
  obtain ⟨_, _, oj, hb⟩ := step_back hf.1 h2
  rw [stepF, oj]
  rcases hy with rfl | rfl <;> exact hb

theorem run_unique {g : Gr} {y i i' : Int} (hy : y = 0 ∨ y = 1) (hb : (stepF g i (y + 2)).2 = false) (hb' : (stepF g i' (y + 2)).2 = false) : ∀ (k k' : Nat), k < (runOn g y i).length → k' < (runOn g y i').length → (runOn g y i).getD k 0 = (runOn g y i').getD k' 0 → k = k' ∧ i = i'
  | 0, 0, _, _, e => ⟨rfl, e⟩
  | 0, k' + 1, _, h', e => by
    have := step_inv hy (run_at hy 256 i' k' h')
    have e2 : i = (i' :: onT g y 256 i').getD (k' + 1) 0 := e
    rw [← e2] at this
    rw [this] at hb
    cases hb
  | k + 1, 0, h, _, e => by
    have := step_inv hy (run_at hy 256 i k h)
    have e2 : (i :: onT g y 256 i).getD (k + 1) 0 = i' := e
    rw [e2] at this
    rw [this] at hb'
    cases hb'
  | k + 1, k' + 1, h, h', e => by
    have a := step_inv hy (run_at hy 256 i k h)
    have b := step_inv hy (run_at hy 256 i' k' h')
    have e2 : (i :: onT g y 256 i).getD (k + 1) 0 = (i' :: onT g y 256 i').getD (k' + 1) 0 := e
    rw [e2, b] at a
    have e3 : (i' :: onT g y 256 i').getD k' 0 = (i :: onT g y 256 i).getD k 0 := (Prod.mk.inj a).1
    obtain ⟨p, q⟩ := run_unique hy hb hb' k k' (Nat.lt_of_succ_lt h) (Nat.lt_of_succ_lt h') e3.symm
    exact ⟨by omega, q⟩

/-- A cell sits there. -/
def Sits (S : List (Int × Bool × List Int)) (d : Bool) (c : Int) (s k : Nat) : Prop := ∃ x, S[s]? = some x ∧ x.2.1 = d ∧ k < x.2.2.length ∧ x.2.2.getD k 0 = c

theorem sits_unique {g : Gr} {d : Bool} {c : Int} {s k s' k' : Nat} (hc : checkF g = 0) (h : Sits (slotsF g) d c s k) (h' : Sits (slotsF g) d c s' k') : s = s' ∧ k = k' := by
  have e : slotsF g = slotsFrom g (g.h * g.w).toNat 0 0 := if_pos hc
  rw [e] at h h'
  obtain ⟨x, hx, hd, hk, hg⟩ := h
  obtain ⟨x', hx', hd', hk', hg'⟩ := h'
  obtain ⟨⟨i, i0, r, b⟩, _⟩ := slots_runs (g := g) _ 0 0 (by omega) x (List.mem_of_getElem? hx)
  obtain ⟨⟨i', i0', r', b'⟩, _⟩ := slots_runs (g := g) _ 0 0 (by omega) x' (List.mem_of_getElem? hx')
  rw [hd] at r b
  rw [hd'] at r' b'
  unfold beginsB at b b'
  rw [Bool.and_eq_true, Bool.not_eq_true'] at b b'
  rw [r] at hk hg
  rw [r'] at hk' hg'
  obtain ⟨p, q⟩ := run_unique (dir_in d) b.1 b'.1 k k' hk hk' (by rw [hg, hg'])
  refine ⟨?_, p⟩
  have hp := slots_rise (g := g) (g.h * g.w).toNat 0 0 (by omega)
  rw [List.pairwise_iff_getElem] at hp
  obtain ⟨l, e1⟩ := List.getElem?_eq_some_iff.1 hx
  obtain ⟨l', e1'⟩ := List.getElem?_eq_some_iff.1 hx'
  have h0 : x.2.2.getD 0 0 = i := by rw [r]; rfl
  have h0' : x'.2.2.getD 0 0 = i' := by rw [r']; rfl
  rcases Nat.lt_trichotomy s s' with hl | hl | hl
  · have := hp s s' l l' hl (by rw [e1, e1', hd, hd'])
    rw [e1, e1', h0, h0'] at this
    omega
  · exact hl
  · have := hp s' s l' l hl (by rw [e1, e1', hd, hd'])
    rw [e1, e1', h0, h0'] at this
    omega

end Go.Proofs.YtnakmganodkliaaDoorAm
