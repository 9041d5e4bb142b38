/- How parts are numbered, step by step: what holds between cells, and while a part is filled. -/
import Derived.Test.YtnakmganodkliaaPaS
set_option linter.unusedVariables false
set_option linter.unusedSimpArgs false
namespace Go.Proofs.YtnakmganodkliaaAm
open Go

theorem pAt_set {p : List Int} {x y n : Int} (x0 : 0 ≤ x) (y0 : 0 ≤ y) (yl : y < p.length) : pAt (p.set y.toNat n) x = if x = y then n else pAt p x := by
  unfold pAt
  rw [List.getD_eq_getElem?_getD, List.getD_eq_getElem?_getD, List.getElem?_set]
  by_cases h : x = y
  · subst h
    rw [if_pos rfl, if_pos rfl, if_pos (by omega)]
    rfl
  · rw [if_neg (by omega), if_neg h]

/-- How many cells have no number yet. -/
def unl (p : List Int) : Nat := (p.filter fun c => decide (c < 0)).length

theorem unl_set : ∀ {p : List Int} {k : Nat} {n : Int}, 0 ≤ n → k < p.length → p.getD k (-1) < 0 → unl (p.set k n) + 1 = unl p
  | [], k, n, _, hk, _ => by simp at hk
  | c :: p, 0, n, n0, _, hc => by
    simp only [List.getD_cons_zero] at hc
    simp [unl, List.filter_cons, hc, show ¬ n < 0 by omega]
  | c :: p, k + 1, n, n0, hk, hc => by
    simp only [List.getD_cons_succ] at hc
    have ih := unl_set (p := p) (k := k) n0 (by simpa using hk) hc
    simp only [unl, List.set_cons_succ, List.filter_cons] at ih ⊢
    split <;> (try simp only [List.length_cons]) <;> omega

/-- The cells below i have their numbers, and whatever has one has its whole part. -/
structure Lab (g : Gr) (p : List Int) (n i : Int) : Prop where
  chk : checkF g = 0
  len : (p.length : Int) = g.h * g.w
  off : ∀ x, 0 ≤ x → x < g.h * g.w → openF g x = false → pAt p x = -1
  lo : ∀ x, openF g x = true → -1 ≤ pAt p x ∧ pAt p x < n
  closed : ∀ x y, openF g x = true → 0 ≤ pAt p x → y ∈ nearF g x → pAt p y = pAt p x
  conn : ∀ x y, openF g x = true → openF g y = true → 0 ≤ pAt p x → pAt p x = pAt p y → Rch g x y
  done : ∀ x, openF g x = true → x < i → 0 ≤ pAt p x
  first : ∀ x, openF g x = true → ∀ c, 0 ≤ c → c < pAt p x → ∃ x', 0 ≤ x' ∧ x' < x ∧ pAt p x' = c
  all : ∀ c, 0 ≤ c → c < n → ∃ x, openF g x = true ∧ x < i ∧ pAt p x = c
  n0 : 0 ≤ n
  i0 : 0 ≤ i

theorem Lab.start {g : Gr} (h : checkF g = 0) : Lab g (List.replicate (g.h * g.w).toNat (-1)) 0 0 := by
  obtain ⟨h1, w1, _, _⟩ := chk0.1 h
  have hw := hw_in h1 w1
  have e : ∀ x, pAt (List.replicate (g.h * g.w).toNat (-1)) x = -1 := by
    intro x
    unfold pAt
    rw [List.getD_eq_getElem?_getD, List.getElem?_replicate]
    split <;> rfl
  refine ⟨h, by simp; omega, fun x _ _ _ => e x, fun x _ => by rw [e]; omega, fun x y _ hx => by rw [e] at hx; omega, fun x y _ _ hx => by rw [e] at hx; omega, fun x ho hx => ?_, fun x _ c _ hc => by rw [e] at hc; omega, fun c _ _ => by omega, by omega, by omega⟩
  have := (open_in ho).2.1
  omega

theorem Lab.fin {g : Gr} {p : List Int} {n i : Int} (L : Lab g p n i) (hi : g.h * g.w ≤ i) : IsParts g p n := by
  have hd : ∀ x, openF g x = true → 0 ≤ pAt p x := fun x ho => L.done x ho (by have := (open_in ho).2.2.1; omega)
  refine ⟨L.len, L.off, fun x ho => ⟨hd x ho, (L.lo x ho).2⟩, fun x y hx hy => ⟨L.conn x y hx hy (hd x hx), fun hr => ?_⟩, L.first, fun c c0 c1 => ?_, L.n0⟩
  · clear hy
    induction hr with
    | refl => rfl
    | tail h hn ih =>
      have hj := (near_back hn).1
      rw [ih]
      exact (L.closed _ _ hj (hd _ hj) hn).symm
  · obtain ⟨x, a, _, b⟩ := L.all c c0 c1
    exact ⟨x, a, b⟩

theorem Lab.skip {g : Gr} {p : List Int} {n i : Int} (L : Lab g p n i) (h : 0 ≤ pAt p i ∨ bAt g.B i = true) : Lab g p n (i + 1) := by
  refine ⟨L.chk, L.len, L.off, L.lo, L.closed, L.conn, fun x ho hx => ?_, L.first, fun c c0 c1 => ?_, L.n0, by have := L.i0; omega⟩
  · by_cases hi : x < i
    · exact L.done x ho hi
    · have : x = i := by omega
      subst this
      rcases h with h | h
      · exact h
      · have := (open_in ho).2.2.2
        rw [h] at this
        cases this
  · obtain ⟨x, a, b, c⟩ := L.all c c0 c1
    exact ⟨x, a, by omega, c⟩

/-- While the part of i is filled with n. -/
structure Cur (g : Gr) (p : List Int) (n i : Int) : Prop where
  chk : checkF g = 0
  oi : openF g i = true
  len : (p.length : Int) = g.h * g.w
  off : ∀ x, 0 ≤ x → x < g.h * g.w → openF g x = false → pAt p x = -1
  lo : ∀ x, openF g x = true → -1 ≤ pAt p x ∧ pAt p x ≤ n
  closed : ∀ x y, openF g x = true → 0 ≤ pAt p x → pAt p x < n → y ∈ nearF g x → pAt p y = pAt p x
  conn : ∀ x y, openF g x = true → openF g y = true → 0 ≤ pAt p x → pAt p x < n → pAt p x = pAt p y → Rch g x y
  cur : ∀ x, openF g x = true → pAt p x = n → Rch g i x
  done : ∀ x, openF g x = true → x < i → 0 ≤ pAt p x ∧ pAt p x < n
  here : pAt p i = n
  first : ∀ x, openF g x = true → pAt p x < n → ∀ c, 0 ≤ c → c < pAt p x → ∃ x', 0 ≤ x' ∧ x' < x ∧ pAt p x' = c
  all : ∀ c, 0 ≤ c → c < n → ∃ x, openF g x = true ∧ x < i ∧ pAt p x = c
  n0 : 0 ≤ n

theorem Lab.begin {g : Gr} {p : List Int} {n i : Int} (L : Lab g p n i) (ho : openF g i = true) (hp : pAt p i < 0) : Cur g (p.set i.toNat n) n i := by
  obtain ⟨_, i0, i1, _⟩ := open_in ho
  have il : i < p.length := by rw [L.len]; exact i1
  have e : ∀ x, 0 ≤ x → pAt (p.set i.toNat n) x = if x = i then n else pAt p x := fun x x0 => pAt_set x0 i0 il
  have ox : ∀ {x}, openF g x = true → 0 ≤ x := fun h => (open_in h).2.1
  have n0 := L.n0
  refine ⟨L.chk, ho, by rw [List.length_set]; exact L.len, fun x x0 x1 hx => ?_, fun x hx => ?_, fun x y hx h1 h2 hn => ?_, fun x y hx hy h1 h2 h3 => ?_, fun x hx h => ?_, fun x hx h => ?_, ?_, fun x hx h c c0 c1 => ?_, fun c c0 c1 => ?_, n0⟩
  · rw [e x x0]
    split
    · rename_i h; subst h; rw [ho] at hx; cases hx
    · exact L.off x x0 x1 hx
  · rw [e x (ox hx)]
    have := L.lo x hx
    split <;> omega
  · rw [e x (ox hx)] at h1 h2 ⊢
    have hy := (near_back hn).2.1
    rw [e y (ox hy)]
    by_cases hxi : x = i
    · rw [if_pos hxi] at h2; omega
    · rw [if_neg hxi] at h1 h2 ⊢
      have hc := L.closed x y hx h1 hn
      by_cases hyi : y = i
      · subst hyi; omega
      · rw [if_neg hyi]; exact hc
  · rw [e x (ox hx)] at h1 h2 h3
    rw [e y (ox hy)] at h3
    by_cases hxi : x = i
    · rw [if_pos hxi] at h2; omega
    · rw [if_neg hxi] at h1 h2 h3
      by_cases hyi : y = i
      · rw [if_pos hyi] at h3; omega
      · rw [if_neg hyi] at h3
        exact L.conn x y hx hy h1 h3
  · rw [e x (ox hx)] at h
    by_cases hxi : x = i
    · subst hxi; exact .refl _
    · rw [if_neg hxi] at h
      have := L.lo x hx
      omega
  · rw [e x (ox hx), if_neg (by omega)]
    exact ⟨L.done x hx h, (L.lo x hx).2⟩
  · rw [e i i0, if_pos rfl]
  · rw [e x (ox hx)] at h c1
    by_cases hxi : x = i
    · rw [if_pos hxi] at h; omega
    · rw [if_neg hxi] at c1
      obtain ⟨x', a, b, d⟩ := L.first x hx c c0 c1
      exact ⟨x', a, b, by rw [e x' a, if_neg (by rintro rfl; omega)]; exact d⟩
  · obtain ⟨x, a, b, d⟩ := L.all c c0 c1
    exact ⟨x, a, b, by rw [e x (ox a), if_neg (by omega)]; exact d⟩

theorem Cur.mark {g : Gr} {p : List Int} {n i x y : Int} (C : Cur g p n i) (hx : openF g x = true) (hpx : pAt p x = n) (hn : y ∈ nearF g x) (hp : pAt p y < 0) : Cur g (p.set y.toNat n) n i := by
  have hy := (near_back hn).2.1
  obtain ⟨_, y0, y1, _⟩ := open_in hy
  have yl : y < p.length := by rw [C.len]; exact y1
  have e : ∀ x, 0 ≤ x → pAt (p.set y.toNat n) x = if x = y then n else pAt p x := fun x x0 => pAt_set x0 y0 yl
  have ox : ∀ {x}, openF g x = true → 0 ≤ x := fun h => (open_in h).2.1
  have n0 := C.n0
  refine ⟨C.chk, C.oi, by rw [List.length_set]; exact C.len, fun z z0 z1 hz => ?_, fun z hz => ?_, fun z u hz h1 h2 hu => ?_, fun z u hz hu h1 h2 h3 => ?_, fun z hz h => ?_, fun z hz h => ?_, ?_, fun z hz h c c0 c1 => ?_, fun c c0 c1 => ?_, n0⟩
  · rw [e z z0]
    split
    · rename_i h; subst h; rw [hy] at hz; cases hz
    · exact C.off z z0 z1 hz
  · rw [e z (ox hz)]
    have := C.lo z hz
    split <;> omega
  · rw [e z (ox hz)] at h1 h2 ⊢
    have hu' := (near_back hu).2.1
    rw [e u (ox hu')]
    by_cases hzy : z = y
    · rw [if_pos hzy] at h2; omega
    · rw [if_neg hzy] at h1 h2 ⊢
      have hc := C.closed z u hz h1 h2 hu
      by_cases huy : u = y
      · subst huy; omega
      · rw [if_neg huy]; exact hc
  · rw [e z (ox hz)] at h1 h2 h3
    rw [e u (ox hu)] at h3
    by_cases hzy : z = y
    · rw [if_pos hzy] at h2; omega
    · rw [if_neg hzy] at h1 h2 h3
      by_cases huy : u = y
      · rw [if_pos huy] at h3; omega
      · rw [if_neg huy] at h3
        exact C.conn z u hz hu h1 h2 h3
  · rw [e z (ox hz)] at h
    by_cases hzy : z = y
    · subst hzy; exact .tail (C.cur x hx hpx) hn
    · rw [if_neg hzy] at h
      exact C.cur z hz h
  · have := C.done z hz h
    rw [e z (ox hz), if_neg (by rintro rfl; omega)]
    exact this
  · rw [e i (ox C.oi)]
    split
    · rfl
    · exact C.here
  · rw [e z (ox hz)] at h c1
    by_cases hzy : z = y
    · rw [if_pos hzy] at h; omega
    · rw [if_neg hzy] at c1 h
      obtain ⟨x', a, b, d⟩ := C.first z hz h c c0 c1
      exact ⟨x', a, b, by rw [e x' a, if_neg (by rintro rfl; omega)]; exact d⟩
  · obtain ⟨z, a, b, d⟩ := C.all c c0 c1
    exact ⟨z, a, b, by rw [e z (ox a), if_neg (by rintro rfl; omega)]; exact d⟩

/-- A neighbour of the part has its number or none. -/
theorem Cur.beside {g : Gr} {p : List Int} {n i x y : Int} (C : Cur g p n i) (hx : openF g x = true) (hpx : pAt p x = n) (hn : y ∈ nearF g x) (hp : 0 ≤ pAt p y) : pAt p y = n := by
  obtain ⟨_, hy, hb⟩ := near_back hn
  have := C.lo y hy
  by_cases h : pAt p y < n
  · have := C.closed y x hy hp h hb
    omega
  · omega

theorem Cur.fin {g : Gr} {p : List Int} {n i : Int} (C : Cur g p n i) (h : ∀ x, openF g x = true → pAt p x = n → ∀ y ∈ nearF g x, pAt p y = n) : Lab g p (n + 1) (i + 1) := by
  have ox : ∀ {x}, openF g x = true → 0 ≤ x := fun h => (open_in h).2.1
  have n0 := C.n0
  refine ⟨C.chk, C.len, C.off, fun x hx => ?_, fun x y hx h1 hn => ?_, fun x y hx hy h1 h2 => ?_, fun x hx hl => ?_, fun x hx c c0 c1 => ?_, fun c c0 c1 => ?_, by omega, by have := ox C.oi; omega⟩
  · have := C.lo x hx
    omega
  · have := C.lo x hx
    by_cases hl : pAt p x < n
    · exact C.closed x y hx h1 hl hn
    · have e : pAt p x = n := by omega
      rw [e]
      exact h x hx e y hn
  · have := C.lo x hx
    by_cases hl : pAt p x < n
    · exact C.conn x y hx hy h1 hl h2
    · have e : pAt p x = n := by omega
      exact (C.cur x hx e).symm.trans (C.cur y hy (by omega))
  · by_cases hxi : x < i
    · exact (C.done x hx hxi).1
    · have : x = i := by omega
      subst this
      rw [C.here]
      exact n0
  · have := C.lo x hx
    by_cases hl : pAt p x < n
    · exact C.first x hx hl c c0 c1
    · obtain ⟨z, a, b, d⟩ := C.all c c0 (by omega)
      have : ¬ x < i := fun hxi => by have := C.done x hx hxi; omega
      exact ⟨z, ox a, by omega, d⟩
  · by_cases hc : c = n
    · subst hc
      exact ⟨i, C.oi, by omega, C.here⟩
    · obtain ⟨z, a, b, d⟩ := C.all c c0 (by omega)
      exact ⟨z, a, by omega, d⟩

end Go.Proofs.YtnakmganodkliaaAm
