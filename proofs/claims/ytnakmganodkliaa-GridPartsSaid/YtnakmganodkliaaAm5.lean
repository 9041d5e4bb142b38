/- Cells that go over into data; rows that are given up; what single operations do. -/
import Derived.Test.YtnakmganodkliaaAm4
set_option linter.unusedVariables false
set_option linter.unusedSimpArgs false
namespace Go.Proofs.YtnakmganodkliaaAm
open Go

theorem mem_killIds : ∀ {cs : List D} {id : Nat}, id ∈ killIds cs ↔ ∃ off len cap, D.own id off len cap ∈ cs
  | [], id => by simp [killIds]
  | d :: cs, id => by
    have ih := mem_killIds (cs := cs) (id := id)
    cases d <;> simp [killIds, ih]
    constructor
    · rintro (h | ⟨off, len, cap, h⟩)
      · subst h; exact ⟨_, _, _, .inl ⟨rfl, rfl, rfl, rfl⟩⟩
      · exact ⟨off, len, cap, .inr h⟩
    · rintro ⟨off, len, cap, h | h⟩
      · exact .inl h.1
      · exact .inr ⟨off, len, cap, h⟩

theorem killIds_take {cs : List D} {n id : Nat} (h : id ∈ killIds (cs.take n)) : id ∈ killIds cs := by
  rw [mem_killIds] at h ⊢
  obtain ⟨o, l, c, h⟩ := h
  exact ⟨o, l, c, List.mem_of_mem_take h⟩
theorem killIds_drop {cs : List D} {n id : Nat} (h : id ∈ killIds (cs.drop n)) : id ∈ killIds cs := by
  rw [mem_killIds] at h ⊢
  obtain ⟨o, l, c, h⟩ := h
  exact ⟨o, l, c, List.mem_of_mem_drop h⟩
theorem killIds_split {cs : List D} {n id : Nat} (h : id ∈ killIds cs) : id ∈ killIds (cs.take n) ∨ id ∈ killIds (cs.drop n) := by
  rw [mem_killIds] at h
  obtain ⟨o, l, c, h⟩ := h
  rw [← List.take_append_drop n cs] at h
  rcases List.mem_append.1 h with h | h
  · exact .inl (mem_killIds.2 ⟨o, l, c, h⟩)
  · exact .inr (mem_killIds.2 ⟨o, l, c, h⟩)

theorem rowData_some {rd : Nat → Option Row} {id off len : Nat} {t : Ty} {x : List t.El} (h : rowData rd id off len t = some x) :
    ∃ e xs, rd id = some (.data e t xs) ∧ x = (xs.drop off).take len := by
  unfold rowData at h
  split at h
  · rename_i e t' xs hr
    split at h
    · rename_i ht
      subst ht
      simp only [Option.some.injEq] at h
      exact ⟨e, xs, hr, h.symm⟩
    · cases h
  · cases h

/-- Cells as an element of a shape: what was a row of the call's own lies now where nobody writes. -/
theorem ofCells_rel {b : Beg} {X : Ctx} (M : Mem b X) {S' : Nat → Prop} (hS : ∀ k, X.S k → S' k) (rd : Nat → Option Row) (hrd : ∀ id r, rd id = some r → hget X.H id = some r) :
    ∀ (t : Ty) (cs : List D) (x : t.El) (us : List Value), t.ofCells rd cs = some x → RelDs X cs us → (∀ id ∈ killIds cs, ∀ l, X.ρ id = some l → S' l.b) →
      RelE S' X.w t x us ∧ (∀ id ∈ killIds cs, hget X.H id ≠ none) ∧ (∀ u, u ∈ us → u.oneCell' = true) := by
  intro t
  induction t with
  | int k =>
    intro cs x us h hr hk
    simp only [Ty.ofCells] at h
    unfold intC at h
    split at h
    · rename_i k' n
      split at h
      · rename_i e
        subst e
        simp only [Option.some.injEq] at h
        subst h
        obtain ⟨u, e, h1⟩ := relDs_one.1 hr
        simp only [RelD] at h1
        subst h1
        subst e
        exact ⟨rfl, by simp [killIds], by simp [Value.oneCell']⟩
      · cases h
    · cases h
  | bool =>
    intro cs x us h hr hk
    simp only [Ty.ofCells] at h
    unfold boolC at h
    split at h
    · simp only [Option.some.injEq] at h
      subst h
      obtain ⟨u, e, h1⟩ := relDs_one.1 hr
      simp only [RelD] at h1
      subst h1
      subst e
      exact ⟨rfl, by simp [killIds], by simp [Value.oneCell']⟩
    · cases h
  | str =>
    intro cs x us h hr hk
    simp only [Ty.ofCells] at h
    unfold strC at h
    split at h
    · simp only [Option.some.injEq] at h
      subst h
      obtain ⟨u, e, h1⟩ := relDs_one.1 hr
      simp only [RelD] at h1
      subst h1
      subst e
      exact ⟨rfl, by simp [killIds], by simp [Value.oneCell']⟩
    · cases h
  | sl t ih =>
    intro cs x us h hr hk
    simp only [Ty.ofCells] at h
    unfold slC at h
    split at h
    · rename_i nn cl t' xs
      split at h
      · rename_i ht
        subst ht
        simp only [Option.some.injEq] at h
        subst h
        obtain ⟨u, e, h1⟩ := relDs_one.1 hr
        simp only [RelD] at h1
        obtain ⟨A, c, us', e1, h2, h3, _, _, h5, h6⟩ := h1
        subst e; subst e1
        exact ⟨⟨A, c, us', rfl, h2, h3, Reps_mono (fun x us h => RelE_mono (fun k hk => ⟨hS k hk, rfl⟩) t' x us h) _ _ h5, At_mono (fun k hk => ⟨hS k hk, rfl⟩) h6⟩, by simp [killIds], by simp [Value.oneCell']⟩
      · cases h
    · simp only [Option.some.injEq] at h
      subst h
      obtain ⟨u, e, h1⟩ := relDs_one.1 hr
      simp only [RelD] at h1
      subst e; subst h1
      exact ⟨⟨none, 0, [], rfl, Nat.le_refl _, fun _ => rfl, rfl, fun j u hj => by simp at hj⟩, by simp [killIds], by simp [Value.oneCell']⟩
    · rename_i id off len cap
      obtain ⟨e, xs, hr1, hx⟩ := rowData_some h
      obtain ⟨u, eu, h1⟩ := relDs_one.1 hr
      obtain ⟨A, c, us', e1, h2, h3, h4, h5, _⟩ := own_data M hS (hrd _ _ hr1) (hk id (by simp [killIds])) h1
      subst eu; subst e1; subst hx
      exact ⟨⟨A, c, us', rfl, h2, h3, Reps_mono (fun x us h => RelE_mono (fun k hk => ⟨hS k hk, rfl⟩) t x us h) _ _ h4, h5⟩, by simp [killIds, hrd _ _ hr1], by simp [Value.oneCell']⟩
    · cases h
  | prod a b iha ihb =>
    intro cs x us h hr hk
    simp only [Ty.ofCells] at h
    split at h
    · rename_i x1 y1 h1 h2
      simp only [Option.some.injEq] at h
      subst h
      obtain ⟨r1, l1, o1⟩ := iha _ _ _ h1 (relDs_take a.size hr) (fun id hid => hk id (killIds_take hid))
      obtain ⟨r2, l2, o2⟩ := ihb _ _ _ h2 (relDs_drop a.size hr) (fun id hid => hk id (killIds_drop hid))
      refine ⟨⟨_, _, (List.take_append_drop a.size us).symm, r1, r2⟩, fun id hid => ?_, fun u hu => ?_⟩
      · rcases killIds_split (n := a.size) hid with h | h
        · exact l1 id h
        · exact l2 id h
      · rw [← List.take_append_drop a.size us] at hu
        rcases List.mem_append.1 hu with h | h
        · exact o1 u h
        · exact o2 u h
    · cases h
  | unit =>
    intro cs x us h hr hk
    simp only [Ty.ofCells] at h
    unfold nilC at h
    split at h
    · simp only [RelDs] at hr
      subst hr
      exact ⟨rfl, by simp [killIds], by simp⟩
    · cases h

theorem elems_rel {b : Beg} {X : Ctx} (M : Mem b X) {S' : Nat → Prop} (hS : ∀ k, X.S k → S' k) (rd : Nat → Option Row) (hrd : ∀ id r, rd id = some r → hget X.H id = some r) (t : Ty) :
    ∀ (n : Nat) (cs : List D) (xs : List t.El) (us : List Value), elems rd t n cs = some xs → RelDs X cs us → (∀ id ∈ killIds cs, ∀ l, X.ρ id = some l → S' l.b) →
      Reps (RelE S' X.w t) xs us ∧ xs.length = n ∧ (∀ id ∈ killIds cs, hget X.H id ≠ none) ∧ (∀ u, u ∈ us → u.oneCell' = true) := by
  intro n
  induction n with
  | zero =>
    intro cs xs us h hr hk
    unfold elems at h
    split at h
    · simp only [Option.some.injEq] at h
      subst h
      simp only [RelDs] at hr
      subst hr
      exact ⟨rfl, rfl, by simp [killIds], by simp⟩
    · cases h
    · contradiction
  | succ n ih =>
    intro cs xs us h hr hk
    simp only [elems] at h
    split at h
    · rename_i x1 y1 h1 h2
      simp only [Option.some.injEq] at h
      subst h
      obtain ⟨r1, l1, o1⟩ := ofCells_rel M hS rd hrd t _ _ _ h1 (relDs_take t.size hr) (fun id hid => hk id (killIds_take hid))
      obtain ⟨r2, e2, l2, o2⟩ := ih _ _ _ h2 (relDs_drop t.size hr) (fun id hid => hk id (killIds_drop hid))
      refine ⟨⟨_, _, (List.take_append_drop t.size us).symm, r1, r2⟩, by simp [e2], fun id hid => ?_, fun u hu => ?_⟩
      · rcases killIds_split (n := t.size) hid with h | h
        · exact l1 id h
        · exact l2 id h
      · rw [← List.take_append_drop t.size us] at hu
        rcases List.mem_append.1 hu with h | h
        · exact o1 u h
        · exact o2 u h
    · cases h

theorem ctx_put_same (X : Ctx) (id : Nat) (s : Slot) (S' : Nat → Prop) (w' : World) (i : Nat) : (X.put id s (X.ρ id) S' w').ρ i = X.ρ i := by
  simp only [Ctx.put]
  by_cases h : i = id
  · rw [if_pos h, h]
  · rw [if_neg h]

theorem nodupB_cons {a : Nat} {l : List Nat} (h : nodupB (a :: l) = true) : a ∉ l ∧ nodupB l = true := by
  simp only [nodupB, Bool.and_eq_true, Bool.not_eq_true', List.contains_eq_mem, decide_eq_false_iff_not] at h
  exact h

/-- Several rows are given up. -/
theorem mem_kills {b : Beg} : ∀ (ids : List Nat) {X : Ctx}, Mem b X → nodupB ids = true → (∀ id ∈ ids, hget X.H id ≠ none) →
    ∃ Y, Mem b Y ∧ Le X Y ∧ Y.H = setWrites X.H (ids.map fun i => (i, none)) ∧ (∀ i, Y.ρ i = X.ρ i) ∧ Y.w = X.w ∧ (∀ k, X.S k → Y.S k) ∧ (∀ id ∈ ids, ∀ l, X.ρ id = some l → Y.S l.b) ∧
      (∀ k, Y.S k → X.S k ∨ ∃ id ∈ ids, ∃ l, X.ρ id = some l ∧ l.b = k)
  | [], X, M, _, _ => ⟨X, M, Le.refl X, rfl, fun _ => rfl, rfl, fun _ h => h, by simp, fun k h => .inl h⟩
  | id :: ids, X, M, hnd, hl => by
    obtain ⟨hni, hnd'⟩ := nodupB_cons hnd
    obtain ⟨r0, h0⟩ : ∃ r, hget X.H id = some r := by
      cases h : hget X.H id with
      | none => exact absurd h (hl id (by simp))
      | some r => exact ⟨r, rfl⟩
    obtain ⟨M1, L1⟩ := mem_kill M h0 (fun k => X.S k ∨ ∃ l, X.ρ id = some l ∧ l.b = k) (fun k h => .inl h) (fun k h => h)
    have hl1 : ∀ i ∈ ids, hget (X.put id .dead (X.ρ id) (fun k => X.S k ∨ ∃ l, X.ρ id = some l ∧ l.b = k) X.w).H i ≠ none := by
      intro i hi
      show hget (X.H.set id .dead) i ≠ none
      rw [hget_set, if_neg (fun h => hni (by rw [h.1]; exact hi))]
      exact hl i (by simp [hi])
    obtain ⟨Y, M2, L2, hH, hρ, hw, hS, hb, hS2⟩ := mem_kills ids M1 hnd' hl1
    refine ⟨Y, M2, L1.trans L2, hH, fun i => (hρ i).trans (ctx_put_same _ _ _ _ _ _), hw, fun k h => hS k (.inl h), ?_, ?_⟩
    · intro i hi l hil
      rcases List.mem_cons.1 hi with h | h
      · subst h; exact hS _ (.inr ⟨l, hil, rfl⟩)
      · exact hb i h l (by rw [ctx_put_same]; exact hil)
    · intro k hk
      rcases hS2 k hk with (h | ⟨l, h1, h2⟩) | ⟨i, hi, l, h1, h2⟩
      · exact .inl h
      · exact .inr ⟨id, by simp, l, h1, h2⟩
      · rw [ctx_put_same] at h1
        exact .inr ⟨i, by simp [hi], l, h1, h2⟩

end Go.Proofs.YtnakmganodkliaaAm
