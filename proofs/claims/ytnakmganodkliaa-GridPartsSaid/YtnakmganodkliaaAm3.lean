/- Abstract values abide what a call does to its own rows: new ones, stores, rows that go over into data. -/
import Derived.Test.YtnakmganodkliaaAm2
set_option linter.unusedVariables false
set_option linter.unusedSimpArgs false
namespace Go.Proofs.YtnakmganodkliaaAm
open Go

theorem add_block (a : Addr) (j : Nat) : (a.add j).block = a.block := by unfold Addr.add; split <;> rfl
theorem add_plain (b o j : Nat) : (⟨b, o, none⟩ : Addr).add j = ⟨b, o + j, none⟩ := by unfold Addr.add; split <;> simp_all

theorem cell_same {w w' : World} {a : Addr} (h : w'.heap[a.block]? = w.heap[a.block]?) : w'.cell? a = w.cell? a := World.cell?_of_block h

theorem Reps_mono {α : Type} {R R' : α → List Value → Prop} (h : ∀ x us, R x us → R' x us) : ∀ (xs : List α) (us : List Value), Reps R xs us → Reps R' xs us
  | [], _, hr => hr
  | x :: xs, us, ⟨u1, u2, e, h1, h2⟩ => ⟨u1, u2, e, h x u1 h1, Reps_mono h xs u2 h2⟩

theorem At_mono {S S' : Nat → Prop} {w w' : World} (h : ∀ k, S k → S' k ∧ w'.heap[k]? = w.heap[k]?) {A : Option Addr} {us : List Value} (ha : At S w A us) : At S' w' A us := by
  intro j u hj
  obtain ⟨a, e, hs, hc⟩ := ha j u hj
  exact ⟨a, e, (h _ hs).1, (cell_same (w := w) (w' := w') (by rw [add_block]; exact (h _ hs).2)).trans hc⟩

theorem RelE_mono {S S' : Nat → Prop} {w w' : World} (h : ∀ k, S k → S' k ∧ w'.heap[k]? = w.heap[k]?) : ∀ (t : Ty) (x : t.El) (us : List Value), RelE S w t x us → RelE S' w' t x us
  | .int _, _, _, hr => hr
  | .bool, _, _, hr => hr
  | .str, _, _, hr => hr
  | .sl t, xs, us, ⟨A, c, us', e, h1, h2, h3, h4⟩ => ⟨A, c, us', e, h1, h2, Reps_mono (RelE_mono h t) xs us' h3, At_mono h h4⟩
  | .prod a b, x, us, ⟨u1, u2, e, h1, h2⟩ => ⟨u1, u2, e, RelE_mono h a x.1 u1 h1, RelE_mono h b x.2 u2 h2⟩
  | .unit, _, _, hr => hr

theorem RelE_flat {S S' : Nat → Prop} {w w' : World} : ∀ (t : Ty) (x : t.El) (us : List Value), t.flat = true → RelE S w t x us → RelE S' w' t x us
  | .int _, _, _, _, hr => hr
  | .bool, _, _, _, hr => hr
  | .str, _, _, _, hr => hr
  | .sl t, xs, us, hf, _ => by simp [Ty.flat] at hf
  | .prod a b, x, us, hf, ⟨u1, u2, e, h1, h2⟩ => by
    simp [Ty.flat] at hf
    exact ⟨u1, u2, e, RelE_flat a x.1 u1 hf.1 h1, RelE_flat b x.2 u2 hf.2 h2⟩
  | .unit, _, _, _, hr => hr

theorem RelE_length {S : Nat → Prop} {w : World} : ∀ (t : Ty) (x : t.El) (us : List Value), RelE S w t x us → us.length = t.size
  | .int _, _, _, hr => by rw [hr]; rfl
  | .bool, _, _, hr => by rw [hr]; rfl
  | .str, _, _, hr => by rw [hr]; rfl
  | .sl t, xs, us, ⟨A, c, us', e, _⟩ => by rw [e]; rfl
  | .prod a b, x, us, ⟨u1, u2, e, h1, h2⟩ => by rw [e, List.length_append, RelE_length a _ _ h1, RelE_length b _ _ h2]; rfl
  | .unit, _, _, hr => by rw [hr]; rfl

/-- What a row may become while other values name it. -/
def Comp : Row → Row → Prop
  | .box _ _, .box _ _ => True
  | .data _ t xs, .data _ t' xs' => t = t' ∧ List.length xs' = List.length xs
  | _, _ => False

theorem Comp.refl : ∀ r, Comp r r
  | .box _ _ => trivial
  | .data _ _ _ => ⟨rfl, rfl⟩

/-- A name of X's heap and the name of Y's heap that stands for it. -/
def Pair (X Y : Ctx) (a b : Nat) : Prop :=
  match slot X.H a, slot Y.H b with
  | .free, _ => True
  | _, .free => False
  | _, .dead => True
  | .dead, .live _ => False
  | .live r, .live r' => Comp r r' ∧ Y.ρ b = X.ρ a

mutual
theorem relD_pair {X Y : Ctx} {g h : Nat → Nat} (hp : ∀ id, Pair X Y (g id) (h id)) :
    ∀ (d : D) (u : Value), ((∀ k, X.S k → Y.S k ∧ Y.w.heap[k]? = X.w.heap[k]?) ∨ flatD d = true) → RelD X (renD g d) u → RelD Y (renD h d) u
  | .v x, u, _, hr => by simpa only [renD, RelD] using hr
  | .sl nn cl t xs, u, hs, hr => by
    have hs := hs.resolve_right (by simp [flatD])
    simp only [renD, RelD] at hr ⊢
    obtain ⟨A, c, us, e, h1, h2, h3, h4, h5, h6⟩ := hr
    exact ⟨A, c, us, e, h1, h2, h3, h4, Reps_mono (RelE_mono hs t) xs us h5, At_mono hs h6⟩
  | .arr t xs, u, hs, hr => by
    simp only [renD, RelD] at hr ⊢
    obtain ⟨us, e, h1⟩ := hr
    refine ⟨us, e, ?_⟩
    rcases hs with hs | hs
    · exact Reps_mono (RelE_mono hs t) xs us h1
    · exact Reps_mono (fun x us => RelE_flat t x us (by simpa [flatD] using hs)) xs us h1
  | .own id off len cap, u, hs, hr => by
    simp only [renD, RelD] at hr ⊢
    have hq := hp id
    simp only [Pair] at hq
    cases hx : slot X.H (g id) with
    | free => rw [hx] at hr; exact hr.elim
    | dead =>
      rw [hx] at hr hq
      cases hy : slot Y.H (h id) with
      | free => rw [hy] at hq; exact hq.elim
      | dead => exact hr
      | live r => rw [hy] at hq; exact hq.elim
    | live r =>
      rw [hx] at hr hq
      cases hy : slot Y.H (h id) with
      | free => rw [hy] at hq; exact hq.elim
      | dead =>
        cases r with
        | box _ _ => exact hr.elim
        | data _ _ _ => obtain ⟨_, A, c, e, _, _, hk, _⟩ := hr; exact ⟨A, c, e, hk⟩
      | live r' =>
        rw [hy] at hq
        obtain ⟨hc, hρ⟩ := hq
        cases r with
        | box _ _ => exact hr.elim
        | data e t xs =>
          cases r' with
          | box _ _ => exact hc.elim
          | data e' t' xs' =>
            obtain ⟨rfl, hl⟩ := hc
            simp only at hr ⊢
            rw [hl, hρ]
            exact hr
  | .ptr id i off, u, hs, hr => by
    simp only [renD, RelD] at hr ⊢
    have hq := hp id
    simp only [Pair] at hq
    cases hx : slot X.H (g id) with
    | free => rw [hx] at hr; exact hr.elim
    | dead =>
      rw [hx] at hr hq
      cases hy : slot Y.H (h id) with
      | free => rw [hy] at hq; exact hq.elim
      | dead => exact hr
      | live r => rw [hy] at hq; exact hq.elim
    | live r =>
      rw [hx] at hr hq
      cases hy : slot Y.H (h id) with
      | free => rw [hy] at hq; exact hq.elim
      | dead => obtain ⟨l, _, e⟩ := hr; exact ⟨_, e⟩
      | live r' =>
        rw [hy] at hq
        obtain ⟨hc, hρ⟩ := hq
        simp only at hr ⊢
        rw [hρ]
        cases r with
        | box _ _ =>
          cases r' with
          | box _ _ => exact hr
          | data _ _ _ => exact hc.elim
        | data e t xs =>
          cases r' with
          | box _ _ => exact hc.elim
          | data e' t' xs' =>
            obtain ⟨rfl, hl⟩ := hc
            exact hr
  | .bsl id len sz, u, hs, hr => by
    simp only [renD, RelD] at hr ⊢
    have hq := hp id
    simp only [Pair] at hq
    cases hx : slot X.H (g id) with
    | free => rw [hx] at hr; exact hr.elim
    | dead =>
      rw [hx] at hr hq
      cases hy : slot Y.H (h id) with
      | free => rw [hy] at hq; exact hq.elim
      | dead => exact hr
      | live r => rw [hy] at hq; exact hq.elim
    | live r =>
      rw [hx] at hr hq
      cases hy : slot Y.H (h id) with
      | free => rw [hy] at hq; exact hq.elim
      | dead =>
        cases r with
        | data _ _ _ => exact hr.elim
        | box _ _ => obtain ⟨l, _, e⟩ := hr; exact ⟨_, e⟩
      | live r' =>
        rw [hy] at hq
        obtain ⟨hc, hρ⟩ := hq
        cases r with
        | data _ _ _ => exact hr.elim
        | box _ _ =>
          cases r' with
          | data _ _ _ => exact hc.elim
          | box _ _ =>
            simp only at hr ⊢
            rw [hρ]
            exact hr
  | .rptr cs, u, hs, hr => by
    have hs := hs.resolve_right (by simp [flatD])
    simp only [renD, RelD] at hr ⊢
    obtain ⟨a, us, e, h1, h2⟩ := hr
    exact ⟨a, us, e, relDs_pair hp cs us (.inl hs) h1, At_mono hs h2⟩
  | .agg cs, u, hs, hr => by
    simp only [renD, RelD] at hr ⊢
    obtain ⟨us, e, h1⟩ := hr
    exact ⟨us, e, relDs_pair hp cs us (hs.imp id (by simp [flatD])) h1⟩
  | .fn f cs, u, hs, hr => by
    simp only [renD, RelD] at hr ⊢
    obtain ⟨us, e, h1⟩ := hr
    exact ⟨us, e, relDs_pair hp cs us (hs.imp id (by simp [flatD])) h1⟩
  | .tup cs, u, hs, hr => by
    simp only [renD, RelD] at hr ⊢
    obtain ⟨us, e, h1⟩ := hr
    exact ⟨us, e, relDs_pair hp cs us (hs.imp id (by simp [flatD])) h1⟩
  | .top, u, hs, hr => by simp only [renD, RelD]
theorem relDs_pair {X Y : Ctx} {g h : Nat → Nat} (hp : ∀ id, Pair X Y (g id) (h id)) :
    ∀ (ds : List D) (us : List Value), ((∀ k, X.S k → Y.S k ∧ Y.w.heap[k]? = X.w.heap[k]?) ∨ flatDs ds = true) → RelDs X (renDs g ds) us → RelDs Y (renDs h ds) us
  | [], us, _, hr => by simpa only [renDs, RelDs] using hr
  | d :: ds, us, hs, hr => by
    simp only [renDs, RelDs] at hr ⊢
    obtain ⟨u, us', e, h1, h2⟩ := hr
    exact ⟨u, us', e, relD_pair hp d u (hs.imp id (by simp [flatDs]; exact fun a _ => a)) h1, relDs_pair hp ds us' (hs.imp id (by simp [flatDs])) h2⟩
end

mutual
theorem renD_id : ∀ d : D, renD (fun i => i) d = d
  | .v _ => rfl
  | .sl _ _ _ _ => rfl
  | .arr _ _ => rfl
  | .own _ _ _ _ => rfl
  | .ptr _ _ _ => rfl
  | .bsl _ _ _ => rfl
  | .rptr cs => by simp only [renD, renDs_id cs]
  | .agg cs => by simp only [renD, renDs_id cs]
  | .fn _ cs => by simp only [renD, renDs_id cs]
  | .tup cs => by simp only [renD, renDs_id cs]
  | .top => rfl
theorem renDs_id : ∀ ds : List D, renDs (fun i => i) ds = ds
  | [] => rfl
  | d :: ds => by simp only [renDs, renD_id d, renDs_id ds]
end

/-- Y's memory serves wherever X's did, by the same names. -/
structure Le (X Y : Ctx) : Prop where
  st : ∀ k, X.S k → Y.S k ∧ Y.w.heap[k]? = X.w.heap[k]?
  pr : ∀ id, Pair X Y id id

theorem Le.d {X Y : Ctx} (h : Le X Y) {d : D} {u : Value} (hr : RelD X d u) : RelD Y d u := by
  have := relD_pair (g := fun i => i) (h := fun i => i) h.pr d u (.inl h.st)
  rw [renD_id] at this
  exact this hr

theorem Le.ds {X Y : Ctx} (h : Le X Y) {ds : List D} {us : List Value} (hr : RelDs X ds us) : RelDs Y ds us := by
  have := relDs_pair (g := fun i => i) (h := fun i => i) h.pr ds us (.inl h.st)
  rw [renDs_id] at this
  exact this hr

theorem Pair.self (X : Ctx) (a : Nat) : Pair X X a a := by
  unfold Pair
  cases h : slot X.H a <;> simp [Comp.refl]

theorem Le.refl (X : Ctx) : Le X X := ⟨fun _ h => ⟨h, rfl⟩, Pair.self X⟩

theorem Comp.trans : ∀ {a b c : Row}, Comp a b → Comp b c → Comp a c
  | .box _ _, .box _ _, .box _ _, _, _ => trivial
  | .data _ _ _, .data _ _ _, .data _ _ _, ⟨e, h⟩, ⟨e', h'⟩ => ⟨e.trans e', h'.trans h⟩

theorem Pair.trans {X Y Z : Ctx} {a b c : Nat} (h : Pair X Y a b) (k : Pair Y Z b c) : Pair X Z a c := by
  unfold Pair at *
  cases hx : slot X.H a <;> cases hy : slot Y.H b <;> cases hz : slot Z.H c <;> simp_all
  exact h.1.trans k.1

theorem Le.trans {X Y Z : Ctx} (h : Le X Y) (k : Le Y Z) : Le X Z :=
  ⟨fun i hi => ⟨(k.st i (h.st i hi).1).1, (k.st i (h.st i hi).1).2.trans (h.st i hi).2⟩, fun id => (h.pr id).trans (k.pr id)⟩

theorem hget_live {H : Heap} {id : Nat} {r : Row} : hget H id = some r ↔ slot H id = .live r := by
  unfold hget
  cases slot H id <;> simp

theorem slot_set (H : Heap) (i j : Nat) (s : Slot) : slot (H.set i s) j = if i = j ∧ i < H.length then s else slot H j := by
  unfold slot
  simp only [List.getD_eq_getElem?_getD, List.getElem?_set]
  by_cases h : i = j
  · subst h
    by_cases h2 : i < H.length
    · simp [h2]
    · simp [h2]
  · simp [h]

theorem hget_set (H : Heap) (i j : Nat) (s : Slot) : hget (H.set i s) j = if i = j ∧ i < H.length then (match s with | .live r => some r | _ => none) else hget H j := by
  unfold hget
  rw [slot_set]
  by_cases h : i = j ∧ i < H.length
  · simp only [if_pos h]; cases s <;> rfl
  · simp only [if_neg h]

/-- The context with one row's slot, place and the memory turned. -/
def Ctx.put (X : Ctx) (id : Nat) (s : Slot) (l : Option Loc) (S' : Nat → Prop) (w' : World) : Ctx :=
  ⟨fun i => if i = id then l else X.ρ i, X.H.set id s, S', w'⟩

theorem lt_of_slot {H : Heap} {id : Nat} (h : slot H id ≠ .free) : id < H.length := by
  apply Nat.lt_of_not_le
  intro hle
  apply h
  unfold slot
  simp [List.getD_eq_getElem?_getD, List.getElem?_eq_none hle]

theorem heap_lt {w : World} {k : Nat} {o : Obj} (h : w.heap[k]? = some o) : k < w.heap.size := (Array.getElem?_eq_some_iff.1 h).1

theorem RelRow.lt {X : Ctx} {r : Row} {l : Loc} (h : RelRow X r (some l)) : l.b < X.w.heap.size := by
  obtain ⟨cs, ty, h1, _⟩ := h
  exact heap_lt h1

/-- A row that nothing touches abides. -/
theorem relRow_le {X Y : Ctx} (h : Le X Y) {r : Row} : ∀ {p : Option Loc}, (∀ l, p = some l → Y.w.heap[l.b]? = X.w.heap[l.b]?) → RelRow X r p → RelRow Y r p
  | none, _, hr => by cases r <;> exact hr
  | some l, hw, hr => by
    obtain ⟨cs, ty, h1, h2, h3⟩ := hr
    refine ⟨cs, ty, (hw l rfl).trans h1, h2, ?_⟩
    cases r with
    | box bt ds => obtain ⟨e, us, e1, h4, h5⟩ := h3; exact ⟨e, us, e1, h.ds h4, h5⟩
    | data e t xs => obtain ⟨e1, us, h4, h5, h6⟩ := h3; exact ⟨e1, us, Reps_mono (RelE_mono h.st t) xs us h4, h5, h6⟩

/-- What a row says of cells, by what X knows. -/
def Content (X : Ctx) (r : Row) (l : Loc) (cs : Array Value) (ty : TypeId) : Prop :=
  cs.size = l.n ∧ match r with
    | .box _ ds => l.o = 0 ∧ ∃ us, cs = us.toArray ∧ RelDs X ds us ∧ ∀ u, u ∈ us → u.oneCell' = true
    | .data e t xs => ty = e ∧ ∃ us, Reps (RelE X.S X.w t) xs us ∧ (∀ u, u ∈ us → u.oneCell' = true) ∧ l.o + us.length ≤ l.n ∧ ∀ j u, us[j]? = some u → cs[l.o + j]? = some u

theorem Content.le {X Y : Ctx} (h : Le X Y) {r : Row} {l : Loc} {cs : Array Value} {ty : TypeId} (hc : Content X r l cs ty) : Content Y r l cs ty := by
  obtain ⟨h1, h2⟩ := hc
  refine ⟨h1, ?_⟩
  cases r with
  | box bt ds => obtain ⟨e, us, e1, h4, h5⟩ := h2; exact ⟨e, us, e1, h.ds h4, h5⟩
  | data e t xs => obtain ⟨e1, us, h4, h5, h6⟩ := h2; exact ⟨e1, us, Reps_mono (RelE_mono h.st t) xs us h4, h5, h6⟩

theorem Content.row {X : Ctx} {r : Row} {l : Loc} {cs : Array Value} {ty : TypeId} (hb : X.w.heap[l.b]? = some (.cells cs ty (0, 0))) (hc : Content X r l cs ty) : RelRow X r (some l) := ⟨cs, ty, hb, hc⟩

theorem RelRow.content {X : Ctx} {r : Row} {l : Loc} (h : RelRow X r (some l)) : ∃ cs ty, X.w.heap[l.b]? = some (.cells cs ty (0, 0)) ∧ Content X r l cs ty := h

/-- A new name for cells that no row names (new ones, or those of a row that is gone). -/
theorem mem_new {b : Beg} {X : Ctx} (M : Mem b X) {id : Nat} (hf : slot X.H id = .free) (hlen : id < X.H.length) (hn : b.n ≤ id)
    (r : Row) (l : Loc) (w' : World) (hos : w'.os = X.w.os) (htape : w'.tape = X.w.tape) (hout : w'.output = X.w.output) (hsz : X.w.heap.size ≤ w'.heap.size)
    (hother : ∀ k, k < X.w.heap.size → k ≠ l.b → w'.heap[k]? = X.w.heap[k]?)
    (hun : ∀ j p, hget X.H j ≠ none → X.ρ j = some p → p.b ≠ l.b) (hS : ¬ X.S l.b) (hfr : b.w.heap.size ≤ l.b ∨ b.B l.b)
    (cs : Array Value) (ty : TypeId) (hb : w'.heap[l.b]? = some (.cells cs ty (0, 0))) (hc : Content X r l cs ty) :
    Mem b (X.put id (.live r) (some l) X.S w') ∧ Le X (X.put id (.live r) (some l) X.S w') := by
  have hle : Le X (X.put id (.live r) (some l) X.S w') := by
    refine ⟨fun k hk => ⟨hk, hother k (M.stab k hk) (fun e => hS (e ▸ hk))⟩, fun i => ?_⟩
    unfold Pair
    by_cases hi : i = id
    · subst hi; rw [hf]; trivial
    · have e : slot (X.put id (.live r) (some l) X.S w').H i = slot X.H i := by
        show slot (X.H.set id _) i = _
        rw [slot_set, if_neg (fun h => hi h.1.symm)]
      rw [e]
      cases hx : slot X.H i <;> simp [Comp.refl, Ctx.put, hi]
  have hlive : ∀ i, hget (X.put id (.live r) (some l) X.S w').H i = if i = id then some r else hget X.H i := by
    intro i
    show hget (X.H.set id _) i = _
    rw [hget_set]
    by_cases hi : i = id
    · subst hi; simp [hlen]
    · rw [if_neg (fun h => hi h.1.symm), if_neg hi]
  refine ⟨⟨hos.trans M.os, htape.trans M.tape, hout.trans M.output, Nat.le_trans M.size hsz, ?_, ?_, ?_, ?_, ?_, ?_, ?_, M.sub, M.sup⟩, hle⟩
  · intro i j p q hi hj hp hq hpq
    rw [hlive] at hi hj
    simp only [Ctx.put] at hp hq
    by_cases h1 : i = id <;> by_cases h2 : j = id
    · rw [h1, h2]
    · simp only [h1, if_true, h2, if_false] at hp hq hj
      cases hp
      exact absurd hpq.symm (hun j q hj hq)
    · simp only [h1, if_false, h2, if_true] at hp hq hi
      cases hq
      exact absurd hpq (hun i p hi hp)
    · simp only [h1, if_false, h2] at hp hq hi hj
      exact M.inj i j p q hi hj hp hq hpq
  · intro i r' hi
    rw [hlive] at hi
    simp only [Ctx.put]
    by_cases h1 : i = id
    · simp only [h1, if_true] at hi ⊢
      cases hi
      exact (hc.le hle).row hb
    · simp only [h1, if_false] at hi ⊢
      refine relRow_le hle (fun p hp => ?_) (M.rows i r' hi)
      have hlt : p.b < X.w.heap.size := by have := M.rows i r' hi; rw [hp] at this; exact this.lt
      exact hother p.b hlt (hun i p (by rw [hi]; simp) hp)
  · intro i p hi hp
    rw [hlive] at hi
    simp only [Ctx.put] at hp ⊢
    by_cases h1 : i = id
    · simp only [h1, if_true] at hp; cases hp; exact hS
    · simp only [h1, if_false] at hp hi; exact M.sep i p hi hp
  · intro k hk
    exact Nat.lt_of_lt_of_le (M.stab k hk) hsz
  · intro k hk hB
    refine (hother k (Nat.lt_of_lt_of_le hk M.size) (fun e => ?_)).trans (M.keep k hk hB)
    subst e
    rcases hfr with h | h
    · omega
    · exact hB h
  · intro i p hi hp
    rw [hlive] at hi
    simp only [Ctx.put] at hp
    by_cases h1 : i = id
    · simp only [h1, if_true] at hp; cases hp; exact hfr
    · simp only [h1, if_false] at hp hi; exact M.fresh i p hi hp
  · intro i hi hl
    rw [hlive] at hl
    have h1 : i ≠ id := by omega
    simp only [Ctx.put, h1, if_false] at hl ⊢
    exact M.old i hi hl

theorem heap_old (w : World) (o : Obj) (k : Nat) (h : k < w.heap.size) : (w.alloc o).heap[k]? = w.heap[k]? := by
  show (w.heap.push o)[k]? = _
  rw [Array.getElem?_push, if_neg (by omega)]

theorem heap_new (w : World) (o : Obj) : (w.alloc o).heap[w.heap.size]? = some o := by
  show (w.heap.push o)[w.heap.size]? = _
  simp

/-- A new block. -/
theorem mem_alloc {b : Beg} {X : Ctx} (M : Mem b X) {id : Nat} (hf : slot X.H id = .free) (hlen : id < X.H.length) (hn : b.n ≤ id)
    (r : Row) (cs : Array Value) (ty : TypeId) (hc : Content X r ⟨X.w.heap.size, 0, cs.size⟩ cs ty) :
    Mem b (X.put id (.live r) (some ⟨X.w.heap.size, 0, cs.size⟩) X.S (X.w.alloc (.cells cs ty))) ∧
      Le X (X.put id (.live r) (some ⟨X.w.heap.size, 0, cs.size⟩) X.S (X.w.alloc (.cells cs ty))) := by
  refine mem_new M hf hlen hn r _ _ rfl rfl rfl (by simp) (fun k hk _ => heap_old _ _ _ hk) (fun j p hj hp e => ?_) (fun h => ?_) (.inl M.size) cs ty (heap_new _ _) hc
  · obtain ⟨r', hr'⟩ : ∃ r', hget X.H j = some r' := by
      cases h : hget X.H j with
      | none => exact absurd h hj
      | some r' => exact ⟨r', rfl⟩
    have := M.rows j r' hr'
    rw [hp] at this
    have := this.lt
    simp only at e
    omega
  · have := M.stab _ h
    simp at this

/-- No cells yet: an empty row behind a nil slice. -/
theorem mem_virt {b : Beg} {X : Ctx} (M : Mem b X) {id : Nat} (hf : slot X.H id = .free) (hlen : id < X.H.length) (hn : b.n ≤ id) (e : TypeId) (t : Ty) :
    Mem b (X.put id (.live (.data e t [])) none X.S X.w) ∧ Le X (X.put id (.live (.data e t [])) none X.S X.w) := by
  have hle : Le X (X.put id (.live (.data e t [])) none X.S X.w) := by
    refine ⟨fun k hk => ⟨hk, rfl⟩, fun i => ?_⟩
    unfold Pair
    by_cases hi : i = id
    · subst hi; rw [hf]; trivial
    · have e : slot (X.put id (.live (.data e t [])) none X.S X.w).H i = slot X.H i := by
        show slot (X.H.set id _) i = _
        rw [slot_set, if_neg (fun h => hi h.1.symm)]
      rw [e]
      cases hx : slot X.H i <;> simp [Comp.refl, Ctx.put, hi]
  have hlive : ∀ i, hget (X.put id (.live (.data e t [])) none X.S X.w).H i = if i = id then some (.data e t []) else hget X.H i := by
    intro i
    show hget (X.H.set id _) i = _
    rw [hget_set]
    by_cases hi : i = id
    · subst hi; simp [hlen]
    · rw [if_neg (fun h => hi h.1.symm), if_neg hi]
  refine ⟨⟨M.os, M.tape, M.output, M.size, ?_, ?_, ?_, M.stab, M.keep, ?_, ?_, M.sub, M.sup⟩, hle⟩
  · intro i j p q hi hj hp hq hpq
    rw [hlive] at hi hj
    simp only [Ctx.put] at hp hq
    by_cases h1 : i = id
    · simp only [h1, if_true] at hp; cases hp
    · by_cases h2 : j = id
      · simp only [h2, if_true] at hq; cases hq
      · simp only [h1, if_false, h2] at hp hq hi hj
        exact M.inj i j p q hi hj hp hq hpq
  · intro i r' hi
    rw [hlive] at hi
    simp only [Ctx.put]
    by_cases h1 : i = id
    · simp only [h1, if_true] at hi ⊢
      cases hi
      rfl
    · simp only [h1, if_false] at hi ⊢
      exact relRow_le hle (fun p hp => rfl) (M.rows i r' hi)
  · intro i p hi hp
    rw [hlive] at hi
    simp only [Ctx.put] at hp ⊢
    by_cases h1 : i = id
    · simp only [h1, if_true] at hp; cases hp
    · simp only [h1, if_false] at hp hi; exact M.sep i p hi hp
  · intro i p hi hp
    rw [hlive] at hi
    simp only [Ctx.put] at hp
    by_cases h1 : i = id
    · simp only [h1, if_true] at hp; cases hp
    · simp only [h1, if_false] at hp hi; exact M.fresh i p hi hp
  · intro i hi hl
    rw [hlive] at hl
    have h1 : i ≠ id := by omega
    simp only [Ctx.put, h1, if_false] at hl ⊢
    exact M.old i hi hl

/-- A store into a row. -/
theorem mem_write {b : Beg} {X : Ctx} (M : Mem b X) {id : Nat} {r0 : Row} (h0 : hget X.H id = some r0) {l : Loc} (hl : X.ρ id = some l) (r : Row) (hcomp : Comp r0 r)
    (w' : World) (hos : w'.os = X.w.os) (htape : w'.tape = X.w.tape) (hout : w'.output = X.w.output) (hsz : w'.heap.size = X.w.heap.size)
    (hother : ∀ k, k ≠ l.b → w'.heap[k]? = X.w.heap[k]?)
    (cs : Array Value) (ty : TypeId) (hb : w'.heap[l.b]? = some (.cells cs ty (0, 0))) (hc : Content X r l cs ty) :
    Mem b (X.put id (.live r) (some l) X.S w') ∧ Le X (X.put id (.live r) (some l) X.S w') := by
  have hs0 : slot X.H id = .live r0 := hget_live.1 h0
  have hlen : id < X.H.length := lt_of_slot (by rw [hs0]; simp)
  have hS : ¬ X.S l.b := M.sep id l (by rw [h0]; simp) hl
  have hle : Le X (X.put id (.live r) (some l) X.S w') := by
    refine ⟨fun k hk => ⟨hk, hother k (fun e => hS (e ▸ hk))⟩, fun i => ?_⟩
    unfold Pair
    by_cases hi : i = id
    · subst hi
      have e : slot (X.put i (.live r) (some l) X.S w').H i = .live r := by
        show slot (X.H.set i _) i = _
        rw [slot_set, if_pos ⟨rfl, hlen⟩]
      rw [e, hs0]
      exact ⟨hcomp, by simp [Ctx.put, hl]⟩
    · have e : slot (X.put id (.live r) (some l) X.S w').H i = slot X.H i := by
        show slot (X.H.set id _) i = _
        rw [slot_set, if_neg (fun h => hi h.1.symm)]
      rw [e]
      cases hx : slot X.H i <;> simp [Comp.refl, Ctx.put, hi]
  have hlive : ∀ i, hget (X.put id (.live r) (some l) X.S w').H i = if i = id then some r else hget X.H i := by
    intro i
    show hget (X.H.set id _) i = _
    rw [hget_set]
    by_cases hi : i = id
    · subst hi; simp [hlen]
    · rw [if_neg (fun h => hi h.1.symm), if_neg hi]
  have hne : ∀ i, hget (X.put id (.live r) (some l) X.S w').H i ≠ none → hget X.H i ≠ none := by
    intro i hi
    rw [hlive] at hi
    by_cases h1 : i = id
    · rw [h1, h0]; simp
    · rwa [if_neg h1] at hi
  have hρ : ∀ i, (X.put id (.live r) (some l) X.S w').ρ i = X.ρ i := by
    intro i
    simp only [Ctx.put]
    by_cases h1 : i = id
    · rw [if_pos h1, h1, hl]
    · rw [if_neg h1]
  refine ⟨⟨hos.trans M.os, htape.trans M.tape, hout.trans M.output, by rw [show (X.put id (.live r) (some l) X.S w').w = w' from rfl, hsz]; exact M.size, ?_, ?_, ?_, ?_, ?_, ?_, ?_, M.sub, M.sup⟩, hle⟩
  · intro i j p q hi hj hp hq hpq
    rw [hρ] at hp hq
    exact M.inj i j p q (hne i hi) (hne j hj) hp hq hpq
  · intro i r' hi
    rw [hρ]
    rw [hlive] at hi
    by_cases h1 : i = id
    · subst h1
      rw [if_pos rfl] at hi
      cases hi
      rw [hl]
      exact (hc.le hle).row hb
    · rw [if_neg h1] at hi
      refine relRow_le hle (fun p hp => hother p.b (fun e => h1 ?_)) (M.rows i r' hi)
      exact M.inj i id p l (by rw [hi]; simp) (by rw [h0]; simp) hp hl e
  · intro i p hi hp
    rw [hρ] at hp
    exact M.sep i p (hne i hi) hp
  · intro k hk
    show k < w'.heap.size
    rw [hsz]
    exact M.stab k hk
  · intro k hk hB
    refine (hother k (fun e => ?_)).trans (M.keep k hk hB)
    subst e
    rcases M.fresh id l (by rw [h0]; simp) hl with h | h
    · omega
    · exact hB h
  · intro i p hi hp
    rw [hρ] at hp
    exact M.fresh i p (hne i hi) hp
  · intro i hi hl'
    rw [hρ]
    exact M.old i hi (hne i hl')

/-- A row is gone: into data that is only read, or for good. -/
theorem mem_kill {b : Beg} {X : Ctx} (M : Mem b X) {id : Nat} {r0 : Row} (h0 : hget X.H id = some r0) (S' : Nat → Prop)
    (hS1 : ∀ k, X.S k → S' k) (hS2 : ∀ k, S' k → X.S k ∨ ∃ l, X.ρ id = some l ∧ l.b = k) :
    Mem b (X.put id .dead (X.ρ id) S' X.w) ∧ Le X (X.put id .dead (X.ρ id) S' X.w) := by
  have hs0 : slot X.H id = .live r0 := hget_live.1 h0
  have hlen : id < X.H.length := lt_of_slot (by rw [hs0]; simp)
  have hle : Le X (X.put id .dead (X.ρ id) S' X.w) := by
    refine ⟨fun k hk => ⟨hS1 k hk, rfl⟩, fun i => ?_⟩
    unfold Pair
    by_cases hi : i = id
    · subst hi
      have e : slot (X.put i .dead (X.ρ i) S' X.w).H i = .dead := by
        show slot (X.H.set i _) i = _
        rw [slot_set, if_pos ⟨rfl, hlen⟩]
      rw [e, hs0]
      trivial
    · have e : slot (X.put id .dead (X.ρ id) S' X.w).H i = slot X.H i := by
        show slot (X.H.set id _) i = _
        rw [slot_set, if_neg (fun h => hi h.1.symm)]
      rw [e]
      cases hx : slot X.H i <;> simp [Comp.refl, Ctx.put, hi]
  have hlive : ∀ i, hget (X.put id .dead (X.ρ id) S' X.w).H i = if i = id then none else hget X.H i := by
    intro i
    show hget (X.H.set id _) i = _
    rw [hget_set]
    by_cases hi : i = id
    · subst hi; simp [hlen]
    · rw [if_neg (fun h => hi h.1.symm), if_neg hi]
  have hne : ∀ i, hget (X.put id .dead (X.ρ id) S' X.w).H i ≠ none → i ≠ id ∧ hget X.H i ≠ none := by
    intro i hi
    rw [hlive] at hi
    by_cases h1 : i = id
    · rw [if_pos h1] at hi; exact absurd rfl hi
    · rw [if_neg h1] at hi; exact ⟨h1, hi⟩
  have hρ : ∀ i, (X.put id .dead (X.ρ id) S' X.w).ρ i = X.ρ i := by
    intro i
    simp only [Ctx.put]
    by_cases h1 : i = id
    · rw [if_pos h1, h1]
    · rw [if_neg h1]
  have hblk : ∀ l, X.ρ id = some l → l.b < X.w.heap.size := fun l hl => by
    have := M.rows id r0 h0; rw [hl] at this; exact this.lt
  refine ⟨⟨M.os, M.tape, M.output, M.size, ?_, ?_, ?_, ?_, M.keep, ?_, ?_, fun k hk => hS1 k (M.sub k hk), ?_⟩, hle⟩
  · intro i j p q hi hj hp hq hpq
    rw [hρ] at hp hq
    exact M.inj i j p q (hne i hi).2 (hne j hj).2 hp hq hpq
  · intro i r' hi
    rw [hρ]
    have hi' := (hne i (by rw [hi]; simp)).1
    rw [hlive, if_neg hi'] at hi
    exact relRow_le hle (fun p hp => rfl) (M.rows i r' hi)
  · intro i p hi hp hS
    rw [hρ] at hp
    have hi' := hne i hi
    rcases hS2 _ hS with h | ⟨l, hl, e⟩
    · exact M.sep i p hi'.2 hp h
    · exact hi'.1 (M.inj i id p l hi'.2 (by rw [h0]; simp) hp hl e.symm)
  · intro k hk
    rcases hS2 k hk with h | ⟨l, hl, e⟩
    · exact M.stab k h
    · rw [← e]; exact hblk l hl
  · intro i p hi hp
    rw [hρ] at hp
    exact M.fresh i p (hne i hi).2 hp
  · intro i hi hl'
    rw [hρ]
    exact M.old i hi (hne i hl').2
  · intro k hk
    rcases hS2 k hk with h | ⟨l, hl, e⟩
    · exact M.sup k h
    · rw [← e]; exact .inr (M.fresh id l (by rw [h0]; simp) hl)

/-- A draw. -/
theorem mem_drew {b : Beg} {X : Ctx} (M : Mem b X) (n : Nat) (hn : n = X.w.drawn + 1) : Mem b ⟨X.ρ, X.H, X.S, X.w.drew⟩ ∧ Le X ⟨X.ρ, X.H, X.S, X.w.drew⟩ := by
  have hle : Le X ⟨X.ρ, X.H, X.S, X.w.drew⟩ := ⟨fun k hk => ⟨hk, rfl⟩, fun i => Pair.trans (Pair.self X i) (Pair.self X i)⟩
  exact ⟨⟨M.os, M.tape, M.output, M.size, M.inj, fun i r hi => relRow_le hle (fun _ _ => rfl) (M.rows i r hi), M.sep, M.stab, M.keep, M.fresh, M.old, M.sub, M.sup⟩, hle⟩

end Go.Proofs.YtnakmganodkliaaAm
