/- Lists of abstract values against lists of the machine's; data against cells. -/
import Derived.Test.YtnakmganodkliaaAm3
set_option linter.unusedVariables false
set_option linter.unusedSimpArgs false
namespace Go.Proofs.YtnakmganodkliaaAm
open Go

section
variable {X : Ctx}

theorem relDs_length : ∀ {ds : List D} {us : List Value}, RelDs X ds us → us.length = ds.length
  | [], us, h => by simp only [RelDs] at h; rw [h]; rfl
  | d :: ds, us, h => by
    simp only [RelDs] at h
    obtain ⟨u, us', e, _, h2⟩ := h
    rw [e, List.length_cons, relDs_length h2, List.length_cons]

theorem relDs_append : ∀ {a b : List D} {us : List Value}, RelDs X (a ++ b) us ↔ ∃ u1 u2, us = u1 ++ u2 ∧ RelDs X a u1 ∧ RelDs X b u2
  | [], b, us => by
    constructor
    · intro h; exact ⟨[], us, rfl, by simp only [RelDs], h⟩
    · rintro ⟨u1, u2, e, h1, h2⟩
      simp only [RelDs] at h1
      subst h1; rw [e]; exact h2
  | d :: a, b, us => by
    constructor
    · intro h
      simp only [List.cons_append, RelDs] at h
      obtain ⟨u, us', e, h1, h2⟩ := h
      obtain ⟨u1, u2, e2, h3, h4⟩ := relDs_append.1 h2
      exact ⟨u :: u1, u2, by rw [e, e2]; rfl, by simp only [RelDs]; exact ⟨u, u1, rfl, h1, h3⟩, h4⟩
    · rintro ⟨u1, u2, e, h1, h2⟩
      simp only [RelDs] at h1
      obtain ⟨u, us', e1, h3, h4⟩ := h1
      simp only [List.cons_append, RelDs]
      exact ⟨u, us' ++ u2, by rw [e, e1]; rfl, h3, relDs_append.2 ⟨us', u2, rfl, h4, h2⟩⟩

theorem relDs_take : ∀ (n : Nat) {ds : List D} {us : List Value}, RelDs X ds us → RelDs X (ds.take n) (us.take n)
  | 0, ds, us, _ => by simp only [List.take_zero, RelDs]
  | n + 1, [], us, h => by simp only [RelDs] at h; subst h; simp only [List.take_nil, RelDs]
  | n + 1, d :: ds, us, h => by
    simp only [RelDs] at h
    obtain ⟨u, us', e, h1, h2⟩ := h
    subst e
    simp only [List.take_succ_cons, RelDs]
    exact ⟨u, _, rfl, h1, relDs_take n h2⟩

theorem relDs_drop : ∀ (n : Nat) {ds : List D} {us : List Value}, RelDs X ds us → RelDs X (ds.drop n) (us.drop n)
  | 0, ds, us, h => by simpa only [List.drop_zero] using h
  | n + 1, [], us, h => by simp only [RelDs] at h; subst h; simp only [List.drop_nil, RelDs]
  | n + 1, d :: ds, us, h => by
    simp only [RelDs] at h
    obtain ⟨u, us', e, h1, h2⟩ := h
    subst e
    simp only [List.drop_succ_cons]
    exact relDs_drop n h2

theorem relDs_get : ∀ {ds : List D} {us : List Value} {i : Nat} {d : D}, RelDs X ds us → ds[i]? = some d → ∃ u, us[i]? = some u ∧ RelD X d u
  | [], us, i, d, _, hd => by simp at hd
  | e :: ds, us, 0, d, h, hd => by
    simp only [RelDs] at h
    obtain ⟨u, us', e1, h1, h2⟩ := h
    simp at hd; subst hd
    exact ⟨u, by rw [e1]; rfl, h1⟩
  | e :: ds, us, i + 1, d, h, hd => by
    simp only [RelDs] at h
    obtain ⟨u, us', e1, h1, h2⟩ := h
    simp at hd
    obtain ⟨v, hv, hr⟩ := relDs_get h2 hd
    exact ⟨v, by rw [e1]; simpa using hv, hr⟩

theorem relDs_one {d : D} {us : List Value} : RelDs X [d] us ↔ ∃ u, us = [u] ∧ RelD X d u := by
  simp only [RelDs]
  constructor
  · rintro ⟨u, us', e, h1, h2⟩; exact ⟨u, by rw [e, h2], h1⟩
  · rintro ⟨u, e, h⟩; exact ⟨u, [], e, h, rfl⟩

theorem relDs_v : ∀ (us : List Value), RelDs X (us.map .v) us
  | [] => by simp only [List.map_nil, RelDs]
  | u :: us => by
    simp only [List.map_cons, RelDs]
    exact ⟨u, us, rfl, by simp only [RelD], relDs_v us⟩

theorem relDs_map {α : Type} {f : α → D} {g : α → Value} : ∀ (l : List α), (∀ x ∈ l, RelD X (f x) (g x)) → RelDs X (l.map f) (l.map g)
  | [], _ => by simp only [List.map_nil, RelDs]
  | x :: l, h => by
    simp only [List.map_cons, RelDs]
    exact ⟨g x, l.map g, rfl, h x (by simp), relDs_map l (fun y hy => h y (by simp [hy]))⟩

theorem cell_one {d : D} {u : Value} (hc : cellB d = true) (h : RelD X d u) : u.oneCell' = true ∧ u.cells = #[u] := by
  cases d with
  | v x =>
    simp only [RelD] at h; subst h
    cases u <;> simp [cellB, Value.oneCell', Value.cells] at hc ⊢
  | sl nn cl t xs => simp only [RelD] at h; obtain ⟨A, c, us, e, _⟩ := h; subst e; exact ⟨rfl, rfl⟩
  | arr t xs => simp [cellB] at hc
  | own id off len cap =>
    simp only [RelD] at h
    cases hs : slot X.H id with
    | free => rw [hs] at h; exact h.elim
    | dead => rw [hs] at h; obtain ⟨A, c, e, _⟩ := h; subst e; exact ⟨rfl, rfl⟩
    | live r =>
      rw [hs] at h
      cases r with
      | box _ _ => exact h.elim
      | data _ _ _ => obtain ⟨_, A, c, e, _⟩ := h; subst e; exact ⟨rfl, rfl⟩
  | ptr id i off =>
    simp only [RelD] at h
    cases hs : slot X.H id with
    | free => rw [hs] at h; exact h.elim
    | dead => rw [hs] at h; obtain ⟨p, e⟩ := h; subst e; exact ⟨rfl, rfl⟩
    | live r => rw [hs] at h; obtain ⟨l, _, e⟩ := h; subst e; exact ⟨rfl, rfl⟩
  | bsl id len sz =>
    simp only [RelD] at h
    cases hs : slot X.H id with
    | free => rw [hs] at h; exact h.elim
    | dead => rw [hs] at h; obtain ⟨p, e⟩ := h; subst e; exact ⟨rfl, rfl⟩
    | live r =>
      rw [hs] at h
      cases r with
      | data _ _ _ => exact h.elim
      | box _ _ => obtain ⟨l, _, e⟩ := h; subst e; exact ⟨rfl, rfl⟩
  | rptr cs => simp only [RelD] at h; obtain ⟨a, us, e, _⟩ := h; subst e; exact ⟨rfl, rfl⟩
  | agg cs => simp [cellB] at hc
  | fn f cs => simp only [RelD] at h; obtain ⟨us, e, _⟩ := h; subst e; exact ⟨rfl, rfl⟩
  | tup cs => simp [cellB] at hc
  | top => simp [cellB] at hc

theorem cells_all_one : ∀ {ds : List D} {us : List Value}, ds.all cellB = true → RelDs X ds us → ∀ u, u ∈ us → u.oneCell' = true
  | [], us, _, h, u, hu => by simp only [RelDs] at h; subst h; simp at hu
  | d :: ds, us, ha, h, u, hu => by
    simp only [RelDs] at h
    obtain ⟨v, us', e, h1, h2⟩ := h
    simp only [List.all_cons, Bool.and_eq_true] at ha
    subst e
    rcases List.mem_cons.1 hu with hu | hu
    · subst hu; exact (cell_one ha.1 h1).1
    · exact cells_all_one ha.2 h2 u hu

/-- A value's cells, each of them one. -/
theorem cellsOf_rel {d : D} {cs : List D} {u : Value} (hc : cellsOf d = some cs) (h : RelD X d u) : RelDs X cs u.cells.toList ∧ cs.all cellB = true := by
  unfold cellsOf at hc
  split at hc
  · rename_i cs'
    split at hc
    · rename_i ha
      simp only [Option.some.injEq] at hc
      subst hc
      simp only [RelD] at h
      obtain ⟨us, e, h1⟩ := h
      subst e
      exact ⟨by simpa [Value.cells] using h1, ha⟩
    · cases hc
  · split at hc
    · rename_i hb
      simp only [Option.some.injEq] at hc
      subst hc
      refine ⟨?_, by simp [hb]⟩
      rw [(cell_one hb h).2]
      exact relDs_one.2 ⟨u, rfl, h⟩
    · cases hc
end

section
variable {α : Type} {R : α → List Value → Prop}

theorem Reps.length {n : Nat} (hR : ∀ x us, R x us → us.length = n) : ∀ {xs : List α} {us : List Value}, Reps R xs us → us.length = xs.length * n
  | [], us, h => by simp only [Reps] at h; subst h; simp
  | x :: xs, us, h => by
    obtain ⟨u1, u2, e, h1, h2⟩ := h
    rw [e, List.length_append, hR x u1 h1, Reps.length hR h2, List.length_cons, Nat.add_mul, Nat.one_mul, Nat.add_comm]

theorem Reps.append : ∀ {xs ys : List α} {us vs : List Value}, Reps R xs us → Reps R ys vs → Reps R (xs ++ ys) (us ++ vs)
  | [], ys, us, vs, h, k => by simp only [Reps] at h; subst h; exact k
  | x :: xs, ys, us, vs, h, k => by
    obtain ⟨u1, u2, e, h1, h2⟩ := h
    exact ⟨u1, u2 ++ vs, by rw [e, List.append_assoc], h1, Reps.append h2 k⟩

theorem Reps.drop {n : Nat} (hR : ∀ x us, R x us → us.length = n) : ∀ (k : Nat) {xs : List α} {us : List Value}, Reps R xs us → Reps R (xs.drop k) (us.drop (k * n))
  | 0, xs, us, h => by simpa using h
  | k + 1, [], us, h => by simp only [Reps] at h; subst h; simp [Reps]
  | k + 1, x :: xs, us, h => by
    obtain ⟨u1, u2, e, h1, h2⟩ := h
    have hl := hR x u1 h1
    have := Reps.drop hR k h2
    rw [List.drop_succ_cons, e]
    have e2 : (u1 ++ u2).drop ((k + 1) * n) = u2.drop (k * n) := by
      rw [Nat.add_mul, Nat.one_mul, Nat.add_comm, ← List.drop_drop, ← hl, List.drop_left]
    rw [e2]
    exact this

theorem Reps.take {n : Nat} (hR : ∀ x us, R x us → us.length = n) : ∀ (k : Nat) {xs : List α} {us : List Value}, Reps R xs us → Reps R (xs.take k) (us.take (k * n))
  | 0, xs, us, h => by simp [Reps]
  | k + 1, [], us, h => by simp only [Reps] at h; subst h; simp [Reps]
  | k + 1, x :: xs, us, h => by
    obtain ⟨u1, u2, e, h1, h2⟩ := h
    have hl := hR x u1 h1
    have := Reps.take hR k h2
    rw [List.take_succ_cons, e]
    have e2 : (u1 ++ u2).take ((k + 1) * n) = u1 ++ u2.take (k * n) := by
      rw [Nat.add_mul, Nat.one_mul, Nat.add_comm, List.take_append, hl]
      congr 1
      · rw [List.take_of_length_le (by omega)]
      · congr 1; omega
    rw [e2]
    exact ⟨u1, _, rfl, h1, this⟩

theorem Reps.get {n : Nat} (hR : ∀ x us, R x us → us.length = n) : ∀ {i : Nat} {x : α} {xs : List α} {us : List Value}, Reps R xs us → xs[i]? = some x → R x ((us.drop (i * n)).take n)
  | _, _, [], us, h, hx => by simp at hx
  | 0, x, y :: xs, us, h, hx => by
    obtain ⟨u1, u2, e, h1, h2⟩ := h
    simp at hx; subst hx
    have hl := hR y u1 h1
    rw [e, Nat.zero_mul, List.drop_zero, ← hl, List.take_left]
    exact h1
  | i + 1, x, y :: xs, us, h, hx => by
    obtain ⟨u1, u2, e, h1, h2⟩ := h
    simp at hx
    have hl := hR y u1 h1
    have := Reps.get hR h2 hx
    have e2 : us.drop ((i + 1) * n) = u2.drop (i * n) := by
      rw [e, Nat.add_mul, Nat.one_mul, Nat.add_comm, ← List.drop_drop, ← hl, List.drop_left]
    rw [e2]
    exact this

theorem Reps.replicate {x : α} {u : List Value} (h : R x u) : ∀ n, Reps R (List.replicate n x) (List.replicate n u).flatten
  | 0 => by simp [Reps]
  | n + 1 => by
    simp only [List.replicate_succ, List.flatten_cons]
    exact ⟨u, _, rfl, h, Reps.replicate h n⟩

theorem Reps.set {n : Nat} (hR : ∀ x us, R x us → us.length = n) : ∀ {i : Nat} {y : α} {v : List Value} {xs : List α} {us : List Value}, Reps R xs us → i < xs.length → R y v →
    Reps R (xs.set i y) (us.take (i * n) ++ v ++ us.drop (i * n + n))
  | _, _, _, [], us, h, hi, _ => by simp at hi
  | 0, y, v, x :: xs, us, h, hi, hy => by
    obtain ⟨u1, u2, e, h1, h2⟩ := h
    have hl := hR x u1 h1
    simp only [List.set_cons_zero, Nat.zero_mul, List.take_zero, List.nil_append, Nat.zero_add]
    rw [e, ← hl, List.drop_left]
    exact ⟨v, u2, rfl, hy, h2⟩
  | i + 1, y, v, x :: xs, us, h, hi, hy => by
    obtain ⟨u1, u2, e, h1, h2⟩ := h
    have hl := hR x u1 h1
    have := Reps.set hR h2 (by simpa using hi) hy
    simp only [List.set_cons_succ]
    refine ⟨u1, _, ?_, h1, this⟩
    rw [e]
    have e1 : (u1 ++ u2).take ((i + 1) * n) = u1 ++ u2.take (i * n) := by
      rw [Nat.add_mul, Nat.one_mul, Nat.add_comm, List.take_append, hl]
      congr 1
      · rw [List.take_of_length_le (by omega)]
      · congr 1; omega
    have e2 : (u1 ++ u2).drop ((i + 1) * n + n) = u2.drop (i * n + n) := by
      have : (i + 1) * n + n = u1.length + (i * n + n) := by rw [hl, Nat.add_mul, Nat.one_mul]; omega
      rw [this, ← List.drop_drop, List.drop_left]
    rw [e1, e2, List.append_assoc, List.append_assoc, List.append_assoc]
end

theorem reps_length {S : Nat → Prop} {w : World} {t : Ty} {xs : List t.El} {us : List Value} (h : Reps (RelE S w t) xs us) : us.length = xs.length * t.size := h.length (RelE_length t)

/-- An element's cells as abstract values. -/
theorem relE_cells (X : Ctx) : ∀ (t : Ty) (x : t.El) (us : List Value), RelE X.S X.w t x us → RelDs X (t.cells x) us
  | .int k, n, us, h => by rw [h]; exact relDs_one.2 ⟨_, rfl, by simp only [RelD]⟩
  | .bool, b, us, h => by rw [h]; exact relDs_one.2 ⟨_, rfl, by simp only [RelD]⟩
  | .str, s, us, h => by rw [h]; exact relDs_one.2 ⟨_, rfl, by simp only [RelD]⟩
  | .sl t, xs, us, ⟨A, c, us', e, h1, h2, h3, h4⟩ => by
    rw [e]
    refine relDs_one.2 ⟨_, rfl, ?_⟩
    simp only [RelD]
    exact ⟨A, c, us', rfl, h1, h2, by simp, by simp, h3, h4⟩
  | .prod a b, x, us, ⟨u1, u2, e, h1, h2⟩ => relDs_append.2 ⟨u1, u2, e, relE_cells X a x.1 u1 h1, relE_cells X b x.2 u2 h2⟩
  | .unit, _, us, h => by rw [h]; simp only [Ty.cells, RelDs]

theorem ty_cells_length : ∀ (t : Ty) (x : t.El), (t.cells x).length = t.size
  | .int _, _ | .bool, _ | .str, _ | .sl _, _ | .unit, _ => rfl
  | .prod a b, x => by simp only [Ty.cells, List.length_append, ty_cells_length a, ty_cells_length b, Ty.size]

theorem rdOf_some {H : Heap} {forb : List Nat} {id : Nat} {r : Row} (h : rdOf H forb id = some r) : hget H id = some r := by
  unfold rdOf at h
  split at h
  · cases h
  · exact h

/-- The data of a row of the call's own, or of a piece of it. -/
theorem own_data {b : Beg} {X : Ctx} (M : Mem b X) {S' : Nat → Prop} (hS : ∀ k, X.S k → S' k) {id off len : Nat} {cap : Option Nat} {e : TypeId} {t : Ty} {xs : List t.El} {u : Value}
    (hr : hget X.H id = some (.data e t xs)) (hk : ∀ l, X.ρ id = some l → S' l.b) (h : RelD X (.own id off len cap) u) :
    ∃ A c us', u = .slice A ((xs.drop off).take len).length c ∧ ((xs.drop off).take len).length ≤ c ∧ (A = none → c = 0) ∧ Reps (RelE X.S X.w t) ((xs.drop off).take len) us' ∧ At S' X.w A us' ∧ (∀ v, v ∈ us' → v.oneCell' = true) := by
  simp only [RelD] at h
  rw [hget_live.1 hr] at h
  obtain ⟨hlen, A, c, e1, hc, hA, _, _, hplace⟩ := h
  have hl : ((xs.drop off).take len).length = len := by simp; omega
  rw [hl]
  by_cases hc0 : c = 0
  · have h0 : len = 0 := by omega
    subst h0
    refine ⟨A, c, [], e1, hc, hA, ?_, fun j u hj => by simp at hj, by simp⟩
    simp [Reps]
  · obtain ⟨l, hl1, hl2, hl3⟩ := hplace.resolve_left hc0
    have hrow := M.rows id _ hr
    rw [hl1] at hrow
    obtain ⟨cs, ty, hb, hn, hty, us, hreps, hone, _, hcs⟩ := hrow
    refine ⟨A, c, (us.drop (off * t.size)).take (len * t.size), e1, hc, hA, ?_, ?_, ?_⟩
    · exact (hreps.drop (RelE_length t) off).take (RelE_length t) len
    · intro j u hj
      have hj' : us[off * t.size + j]? = some u := by
        rw [List.getElem?_take] at hj
        split at hj
        · rwa [List.getElem?_drop] at hj
        · cases hj
      refine ⟨_, hl2, hk l hl1, ?_⟩
      rw [add_plain, cell_of_row _ _ _ _ _ _ hb]
      have := hcs _ _ hj'
      rwa [Nat.add_assoc]
    · intro v hv
      exact hone v (List.mem_of_mem_drop (List.mem_of_mem_take hv))

end Go.Proofs.YtnakmganodkliaaAm
