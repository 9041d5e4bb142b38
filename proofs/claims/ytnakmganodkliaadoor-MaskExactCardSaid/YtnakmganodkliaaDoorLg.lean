/- The logic: ranges over functions. -/
import Derived.Test.YtnakmganodkliaaDoorLe
set_option linter.unusedVariables false
set_option linter.unusedSimpArgs false
namespace Go.Proofs.YtnakmganodkliaaDoorAm
open Go

/-! ### One memory behind another -/

def AllLive (H : Heap) : Prop := ∀ id, id < H.length → ∃ r, slot H id = .live r

theorem AllLive.get {H : Heap} (h : AllLive H) {id : Nat} (hi : id < H.length) : hget H id ≠ none := by
  obtain ⟨r, hr⟩ := h id hi
  rw [hget_live.2 hr]
  simp

theorem slot_out {H : Heap} {id : Nat} (h : H.length ≤ id) : slot H id = .free := by
  unfold slot
  rw [List.getD_eq_getElem?_getD, List.getElem?_eq_none h]
  rfl

theorem allLive_map (pre : List Row) : AllLive (pre.map .live) := by
  intro id h
  rw [List.length_map] at h
  exact ⟨pre[id], by rw [slot_map, List.getElem?_eq_getElem h]⟩

def Beg.of (X : Ctx) : Beg := ⟨X.w, X.ρ, X.S, X.H.length⟩

theorem mem_self {b : Beg} {X : Ctx} (M : Mem b X) (hl : AllLive X.H) : Mem (Beg.of X) X := by
  refine ⟨rfl, rfl, rfl, Nat.le_refl _, M.inj, M.rows, M.sep, M.stab, fun _ _ _ => rfl, ?_, fun _ _ _ => rfl, fun _ h => h, fun _ h => .inl h, M.glob⟩
  intro id p h1 h2
  exact .inr ⟨id, p, lt_of_slot (fun e => h1 (hget_free e)), h2, rfl⟩

theorem mem_trans {b : Beg} {X X' : Ctx} (M : Mem b X) (hl : AllLive X.H) (hbn : b.n ≤ X.H.length) (M' : Mem (Beg.of X) X') : Mem b X' := by
  have hB : ∀ k, (Beg.of X).B k → b.w.heap.size ≤ k ∨ b.B k := by
    rintro k ⟨id, l, h1, h2, rfl⟩
    exact M.fresh id l (hl.get h1) h2
  refine ⟨M'.os.trans M.os, M'.tape.trans M.tape, M'.output.trans M.output, Nat.le_trans M.size M'.size, M'.inj, M'.rows, M'.sep, M'.stab, ?_, ?_, ?_, fun k hk => M'.sub k (M.sub k hk), ?_, M'.glob⟩
  · intro k h1 h2
    have h3 : ¬ (Beg.of X).B k := by
      intro hb
      rcases hB k hb with h | h
      · omega
      · exact h2 h
    rw [M'.keep k (Nat.lt_of_lt_of_le h1 M.size) h3]
    exact M.keep k h1 h2
  · intro id p h1 h2
    rcases M'.fresh id p h1 h2 with h | h
    · exact .inl (Nat.le_trans M.size h)
    · exact hB _ h
  · intro id h1 h2
    have h3 := M'.old id (Nat.lt_of_lt_of_le h1 hbn) h2
    rw [h3]
    exact M.old id h1 (hl.get (Nat.lt_of_lt_of_le h1 hbn))
  · intro k hk
    rcases M'.sup k hk with h | h | h
    · exact M.sup k h
    · exact .inr (.inl (Nat.le_trans M.size h))
    · exact .inr (hB k h)

/-- What the rows that were there have become. -/
def Became (H H' : Heap) : Prop := ∀ id r, slot H id = .live r → slot H' id = .dead ∨ ∃ r', slot H' id = .live r' ∧ Comp r r'

theorem le_trans' {b : Beg} {X X' : Ctx} (M : Mem b X) (hl : AllLive X.H) (M' : Mem (Beg.of X) X') (hc : Became X.H X'.H) : Le X X' := by
  refine ⟨fun k hk => ⟨M'.sub k hk, M'.keep k (M.stab k hk) ?_⟩, fun id => ?_⟩
  · rintro ⟨id, l, h1, h2, h3⟩
    exact M.sep id l (hl.get h1) h2 (by rw [h3]; exact hk)
  · unfold Pair
    cases hx : slot X.H id with
    | free => trivial
    | dead =>
      have hi : id < X.H.length := lt_of_slot (by rw [hx]; simp)
      obtain ⟨r, hr⟩ := hl id hi
      rw [hr] at hx
      cases hx
    | live r =>
      have hi : id < X.H.length := lt_of_slot (by rw [hx]; simp)
      rcases hc id r hx with h | ⟨r', h, hcomp⟩
      · rw [h]; trivial
      · rw [h]
        exact ⟨hcomp, M'.old id hi (by rw [hget_live.2 h]; simp)⟩

/-- Rows by number against what became of them: lengths alike. -/
theorem became_of_shape {pre : List Row} {H' : Heap} {post : List (Option Row)} {qs : List Prop} (hp : optsOf (H'.take pre.length) = some post) (hs : shapeEq pre post = some qs) (hq : ∀ q ∈ qs, q) : Became (pre.map .live) H' := by
  intro id r h
  rw [slot_map] at h
  obtain ⟨hl, hcomp⟩ := shapeEq_all hs hq
  have e := optsOf_some hp
  cases hr : pre[id]? with
  | none => rw [hr] at h; cases h
  | some r0 =>
    rw [hr] at h
    cases h
    have hid : id < pre.length := (List.getElem?_eq_some_iff.1 hr).1
    have hid2 : id < post.length := by omega
    have h1 : slot H' id = slotOf post[id] := by
      have h2 : (H'.take pre.length)[id]? = some (slotOf post[id]) := by
        rw [e, List.getElem?_map, List.getElem?_eq_getElem hid2]
        rfl
      rw [List.getElem?_take_of_lt hid] at h2
      unfold slot
      rw [List.getD_eq_getElem?_getD, h2]
      rfl
    rw [h1]
    cases hpi : post[id] with
    | none => exact .inl rfl
    | some r' =>
      exact .inr ⟨r', rfl, hcomp id r r' hr (by rw [List.getElem?_eq_getElem hid2, hpi])⟩

/-! ### A block of no cells that no row lies in may change -/

theorem row_block {b : Beg} {X : Ctx} (M : Mem b X) {z : Nat} {o : Obj} (hz : X.w.heap[z]? = some o) (ho : ∀ cs ty fz, o ≠ .cells cs ty fz) {id : Nat} {r : Row} {l : Loc} (h1 : hget X.H id = some r) (h2 : X.ρ id = some l) : l.b ≠ z := by
  intro e
  have h3 := M.rows id r h1
  rw [h2] at h3
  obtain ⟨cs, ty, h4, _⟩ := h3
  rw [e, hz] at h4
  exact ho _ _ _ (Option.some.inj h4)

def putX (X : Ctx) (z : Nat) (o : Obj) : Ctx := ⟨X.ρ, X.H, X.S, X.w.putObj z o⟩

theorem putX_le {X : Ctx} {z : Nat} {o : Obj} (hS : ¬ X.S z) : Le X (putX X z o) := by
  refine ⟨fun k hk => ⟨hk, putObj_ne k (fun e => hS (e ▸ hk))⟩, fun id => ?_⟩
  unfold Pair
  show match slot X.H id, slot X.H id with
    | .free, _ => True
    | _, .free => False
    | _, .dead => True
    | .dead, .live _ => False
    | .live r, .live r' => Comp r r' ∧ X.ρ id = X.ρ id
  cases slot X.H id with
  | free => trivial
  | dead => trivial
  | live r => exact ⟨Comp.refl r, rfl⟩

theorem mem_put {b : Beg} {X : Ctx} (M : Mem b X) {z : Nat} {o o' : Obj} (hz : X.w.heap[z]? = some o) (ho : ∀ cs ty fz, o ≠ .cells cs ty fz) (hS : ¬ X.S z) (hb : b.w.heap.size ≤ z) : Mem b (putX X z o') := by
  have hle := putX_le (X := X) (o := o') hS
  refine ⟨M.os, M.tape, M.output, by show _ ≤ (X.w.putObj z o').heap.size; rw [World.putObj_size]; exact M.size, M.inj, ?_, M.sep, fun k hk => by show k < (X.w.putObj z o').heap.size; rw [World.putObj_size]; exact M.stab k hk, ?_, M.fresh, M.old, M.sub, M.sup, M.glob.le hle.st⟩
  · intro id r hr
    refine relRow_le hle ?_ (M.rows id r hr)
    intro l hl
    exact putObj_ne _ (row_block M hz ho hr hl)
  · intro k h1 h2
    show (X.w.putObj z o').heap[k]? = _
    rw [putObj_ne k (by omega)]
    exact M.keep k h1 h2

/-- The beginning, in a memory where the block is another. -/
def Beg.put (b : Beg) (z : Nat) (o : Obj) : Beg := ⟨b.w.putObj z o, b.ρ, b.S, b.n⟩

theorem mem_put_both {b : Beg} {X : Ctx} (M : Mem b X) {z : Nat} {o o' : Obj} (hz : X.w.heap[z]? = some o) (ho : ∀ cs ty fz, o ≠ .cells cs ty fz) (hS : ¬ X.S z) : Mem (b.put z o') (putX X z o') := by
  have hle := putX_le (X := X) (o := o') hS
  refine ⟨M.os, M.tape, M.output, by show (b.w.putObj z o').heap.size ≤ (X.w.putObj z o').heap.size; rw [World.putObj_size, World.putObj_size]; exact M.size, M.inj, ?_, M.sep, fun k hk => by show k < (X.w.putObj z o').heap.size; rw [World.putObj_size]; exact M.stab k hk, ?_, ?_, M.old, M.sub, ?_, M.glob.le hle.st⟩
  · intro id r hr
    refine relRow_le hle ?_ (M.rows id r hr)
    intro l hl
    exact putObj_ne _ (row_block M hz ho hr hl)
  · intro k h1 h2
    have h1' : k < b.w.heap.size := by
      have h : k < (b.w.putObj z o').heap.size := h1
      rwa [World.putObj_size] at h
    show (X.w.putObj z o').heap[k]? = (b.w.putObj z o').heap[k]?
    by_cases e : k = z
    · subst e
      rw [World.putObj_heap_same h1', World.putObj_heap_same (Nat.lt_of_lt_of_le h1' M.size)]
    · rw [putObj_ne k e, putObj_ne k e]
      exact M.keep k h1' h2
  · intro id p h1 h2
    rcases M.fresh id p h1 h2 with h | h
    · exact .inl (by show (b.w.putObj z o').heap.size ≤ _; rw [World.putObj_size]; exact h)
    · exact .inr h
  · intro k hk
    rcases M.sup k hk with h | h | h
    · exact .inl h
    · exact .inr (.inl (by show (b.w.putObj z o').heap.size ≤ _; rw [World.putObj_size]; exact h))
    · exact .inr (.inr h)

/-- The memory has grown: new blocks, other answers drawn. -/
structure Grew (w w' : World) : Prop where
  os : w'.os = w.os
  tape : w'.tape = w.tape
  output : w'.output = w.output
  size : w.heap.size ≤ w'.heap.size
  keep : ∀ k, k < w.heap.size → w'.heap[k]? = w.heap[k]?

theorem Grew.refl (w : World) : Grew w w := ⟨rfl, rfl, rfl, Nat.le_refl _, fun _ _ => rfl⟩

theorem Grew.trans {a b c : World} (h : Grew a b) (k : Grew b c) : Grew a c :=
  ⟨k.os.trans h.os, k.tape.trans h.tape, k.output.trans h.output, Nat.le_trans h.size k.size, fun i hi => (k.keep i (Nat.lt_of_lt_of_le hi h.size)).trans (h.keep i hi)⟩

theorem grew_alloc (w : World) (o : Obj) : Grew w (w.alloc o) := ⟨rfl, rfl, rfl, by simp, fun k hk => heap_old w o k hk⟩

theorem mem_grew {b : Beg} {X : Ctx} (M : Mem b X) {w' : World} (hg : Grew X.w w') : Mem b ⟨X.ρ, X.H, X.S, w'⟩ ∧ Le X ⟨X.ρ, X.H, X.S, w'⟩ := by
  have hle : Le X ⟨X.ρ, X.H, X.S, w'⟩ := by
    refine ⟨fun k hk => ⟨hk, hg.keep k (M.stab k hk)⟩, fun id => ?_⟩
    unfold Pair
    show match slot X.H id, slot X.H id with
      | .free, _ => True
      | _, .free => False
      | _, .dead => True
      | .dead, .live _ => False
      | .live r, .live r' => Comp r r' ∧ X.ρ id = X.ρ id
    cases slot X.H id with
    | free => trivial
    | dead => trivial
    | live r => exact ⟨Comp.refl r, rfl⟩
  refine ⟨⟨hg.os.trans M.os, hg.tape.trans M.tape, hg.output.trans M.output, Nat.le_trans M.size hg.size, M.inj, ?_, M.sep, fun k hk => Nat.lt_of_lt_of_le (M.stab k hk) hg.size, ?_, M.fresh, M.old, M.sub, M.sup, M.glob.le hle.st⟩, hle⟩
  · intro id r hr
    refine relRow_le hle ?_ (M.rows id r hr)
    intro l hl
    exact hg.keep _ (live_lt M (by rw [hr]; simp) hl)
  · intro k h1 h2
    show w'.heap[k]? = _
    rw [hg.keep k (Nat.lt_of_lt_of_le h1 M.size)]
    exact M.keep k h1 h2

/-- A new block of no row's, that nobody writes. -/
theorem mem_pin {b : Beg} {X : Ctx} (M : Mem b X) {z : Nat} {o : Obj} (hz : X.w.heap[z]? = some o) (ho : ∀ cs ty fz, o ≠ .cells cs ty fz) (hb : b.w.heap.size ≤ z) : Mem b ⟨X.ρ, X.H, fun k => X.S k ∨ k = z, X.w⟩ ∧ Le X ⟨X.ρ, X.H, fun k => X.S k ∨ k = z, X.w⟩ := by
  have hle : Le X ⟨X.ρ, X.H, fun k => X.S k ∨ k = z, X.w⟩ := by
    refine ⟨fun k hk => ⟨.inl hk, rfl⟩, fun id => ?_⟩
    unfold Pair
    show match slot X.H id, slot X.H id with
      | .free, _ => True
      | _, .free => False
      | _, .dead => True
      | .dead, .live _ => False
      | .live r, .live r' => Comp r r' ∧ X.ρ id = X.ρ id
    cases slot X.H id with
    | free => trivial
    | dead => trivial
    | live r => exact ⟨Comp.refl r, rfl⟩
  refine ⟨⟨M.os, M.tape, M.output, M.size, M.inj, fun id r hr => relRow_le hle (fun _ _ => rfl) (M.rows id r hr), ?_, ?_, M.keep, M.fresh, M.old, fun k hk => .inl (M.sub k hk), ?_, M.glob.le hle.st⟩, hle⟩
  · intro id p h1 h2 h3
    rcases h3 with h3 | h3
    · exact M.sep id p h1 h2 h3
    · cases hr : hget X.H id with
      | none => exact h1 hr
      | some r => exact row_block M hz ho hr h2 h3
  · intro k hk
    rcases hk with hk | rfl
    · exact M.stab k hk
    · exact (Array.getElem?_eq_some_iff.1 hz).1
  · intro k hk
    rcases hk with hk | rfl
    · exact M.sup k hk
    · exact .inr (.inl hb)

/-! ### Iterators -/

/-- A call of yield with these values: a round is run. -/
def Yields (P : Program) (l : Nat) (x : List Value) (w : World) (R : Bool → World → Prop) : Prop :=
  ∃ f tmps assign body, (Instr.yield l x.toArray).run P w = .ok (.round l f tmps assign body) w ∧
    ∀ (c : Frame) (cs : List Frame), ∃ bv w', R bv w' ∧ Steps P (lone (Frame.round l f tmps assign body .normal) (c :: cs) w) (lone (c.finish (.bool bv)) cs w')

/-- All blocks but those of U are as they were. -/
structure Kept (U : Nat → Prop) (w w' : World) : Prop where
  size : w.heap.size ≤ w'.heap.size
  keep : ∀ k, k < w.heap.size → ¬ U k → w'.heap[k]? = w.heap[k]?

/-- A context without rows. -/
def bareX (S : Nat → Prop) (w : World) : Ctx := ⟨fun _ => none, [], S, w⟩

/-- **An iterator's contract**: it yields these values, one behind the other, until it is told to stop, and touches nothing. J: what holds between the rounds, U: the blocks that the rounds may change. -/
structure IterP (P : Program) (g : FuncId) (caps : List D) (xs : List (List Value)) : Prop where
  fn : ∃ fn, P.funcs[g]? = some fn ∧ (fn.name == "runtime.NumGoroutine") = false ∧ fn.body.isNone = false
  run : ∀ (l : Nat) (lb : List Value) (S : Nat → Prop) (J : Nat → (Nat → Prop) → World → Prop) (Jx : World → Prop),
    (∀ i U w, J i U w → ∀ k, U k → k < w.heap.size) →
    (∀ i U w w', Grew w w' → J i U w → J i U w') → (∀ w w', Grew w w' → Jx w → Jx w') →
    (∀ i x U w, xs[i]? = some x → J i U w → Yields P l x w fun c w' => Kept U w w' ∧ if c then ∃ U', J (i + 1) U' w' ∧ ∀ k, U' k → U k ∨ w.heap.size ≤ k else Jx w') →
    ∀ U w, J 0 U w → (∀ k, S k → k < w.heap.size ∧ ¬ U k) → GlobOk S w → RelDs (bareX S w) caps lb →
      Calls P g (#[.func (.yield l) #[] #[]] ++ lb.toArray) w fun e w' => (∃ v, e = .returned v) ∧ ((∃ U', J xs.length U' w') ∨ Jx w')

/-! ### Rounds -/

/-- How a round's walk ends: off its end, or at a jump that nothing in the round catches. -/
def EndAt : Option Code → List Item → Prop
  | none, k => k = []
  | some .ret, k => ∃ r, k = .code .ret :: r
  | some (.exit id), k => ∃ r, k = .code (.exit id) :: r ∧ exitTo id r = none
  | _, _ => False

/-- The round's body comes to its end. -/
def bodyGoal (P : Program) (l : Nat) (Ψ : Option Code → St → Prop) : Goal P where
  ro := some l
  Q := fun b fr cs m => ∃ j X' s' a' todo, Steps P m (lone (fr.atR a' todo) cs X'.w) ∧ EndAt j todo ∧ Rel b X' s' a' ∧ Ψ j s'
  back := by
    intro b fr cs m m' hs h
    obtain ⟨j, X', s', a', todo, h1, h2⟩ := h
    exact ⟨j, X', s', a', todo, Steps.head hs h1, h2⟩

/-- The round comes to its end, from its beginning. -/
def rndGoal (P : Program) (l : Nat) (rc : Loop) (Ψ : Option Code → St → Prop) : Goal P where
  ro := some l
  Q := fun b fr cs m => b.w.heap[l]? = some (.loop rc) → ¬ b.S l → ¬ b.B l → (bodyGoal P l Ψ).Q (b.put l (.loop { rc with state := .busy })) fr cs m
  back := by
    intro b fr cs m m' hs h h1 h2 h3
    exact (bodyGoal P l Ψ).back _ _ _ _ _ hs (h h1 h2 h3)

theorem body_vc {P : Program} {sp : Sp} {n : Nat} {l : Nat} {K : Nat → List Item} {keep : Nat → List Nat} {co : Nat → List Co} {E : Option Code → St → Prop} {G : Nat → St → Prop} {Ψ : Option Code → St → Prop} (hm : P.follows .mixedOrders = true)
    (hG : ∀ i s, G i s → Goes P (bodyGoal P l Ψ) n (K i) s) (hE : ∀ j s, E j s → Ψ j s) (f : Nat) (k : List Item) (h : Hint) (s : St) (hv : vcX P sp n K keep co E G f k h s) : Goes P (bodyGoal P l Ψ) n k s :=
  vcX_sound hm hG (fun s h b X a fr cs _ _ _ R => ⟨none, X, s, a, [], Steps.refl _ _, rfl, R, hE _ _ h⟩)
    (fun k s h b X a fr cs _ _ _ R => ⟨some .ret, X, s, a, _, Steps.refl _ _, ⟨k, rfl⟩, R, hE _ _ h⟩)
    (fun id k s he h b X a fr cs _ _ _ R => ⟨some (.exit id), X, s, a, _, Steps.refl _ _, ⟨k, rfl, he⟩, R, hE _ _ h⟩) f k h s hv

theorem loop_ne (rc : Loop) : ∀ cs ty fz, (Obj.loop rc) ≠ .cells cs ty fz := fun _ _ _ h => by cases h

theorem marks_put {b : Beg} {X : Ctx} {ds : List Deferred} {z : Nat} {o : Obj} (h : Marks b X ds) : Marks (b.put z o) X ds := by
  obtain ⟨h0, Ds, h1, h2, h3⟩ := h
  refine ⟨fun k hk => by show k < (b.w.putObj z o).heap.size; rw [World.putObj_size]; exact h0 k hk, Ds, h1, h2, fun D hD => ?_⟩
  obtain ⟨g1, g2, g3⟩ := h3 D hD
  exact ⟨by show (b.w.putObj z o).heap.size ≤ D; rw [World.putObj_size]; exact g1, g2, g3⟩

theorem begin_round {P : Program} {l : Nat} {rc : Loop} {Ψ : Option Code → St → Prop} {n : Nat} {s : St} {k : List Item} (hr : rc.state = .ready) (hg : Goes P (bodyGoal P l Ψ) n k s) : Goes P (rndGoal P l rc Ψ) n (.beginRound :: k) s := by
  intro b X a fr cs hro hb hd R h1 h2 h3
  have hlt : l < b.w.heap.size := (Array.getElem?_eq_some_iff.1 h1).1
  have hX : X.w.heap[l]? = some (.loop rc) := by rw [R.mem.keep l hlt h3]; exact h1
  have hS : ¬ X.S l := by
    intro h
    rcases R.mem.sup l h with h | h | h
    · exact h2 h
    · omega
    · exact h3 h
  have M1 := mem_put_both (o' := .loop { rc with state := .busy }) R.mem hX (loop_ne rc) hS
  have hle := putX_le (X := X) (o := .loop { rc with state := .busy }) hS
  have R1 : Rel (b.put l (.loop { rc with state := .busy })) (putX X l (.loop { rc with state := .busy })) s a :=
    ⟨M1, hle.ds R.tmps, R.heap, R.len, marks_put (R.defers.le hle)⟩
  exact (bodyGoal P l Ψ).back _ _ _ _ _ (stepR_beginRound hro (run_beginRound hX hr)) (hg (b.put l (.loop { rc with state := .busy })) (putX X l (.loop { rc with state := .busy })) a fr cs hro hb hd R1)

/-- The first part of a round: what is yielded is taken; then the body. -/
theorem rnd_vc {P : Program} {sp : Sp} {n l : Nat} {rc : Loop} {Ψ : Option Code → St → Prop} {assign body : Code} {s : St} {keep : List Nat} {f : Nat} {G : St → Prop} (hm : P.follows .mixedOrders = true) (hr : rc.state = .ready)
    (hG : ∀ s, G s → Goes P (bodyGoal P l Ψ) n [.code body] s)
    (hv : vcX P sp n (fun _ => [.beginRound, .code body]) (fun _ => keep) (fun _ => []) (fun _ _ => Stuck 3000) (fun _ => G) f [.code assign, .beginRound, .code body] (.cut 0) s) :
    Goes P (rndGoal P l rc Ψ) n [.code assign, .beginRound, .code body] s :=
  vcX_sound hm (fun _ s h => begin_round hr (hG s h)) (fun s h => h.elim) (fun k s h => h.elim) (fun id k s _ h => h.elim) f _ _ s hv

/-- Yield's values in their temporaries. -/
def putPs (ts : List D) (ps : List Tmp) (x : List Value) : List D := (ps.zip x).foldl (fun t p => t.set p.1 (.v p.2)) ts

/-- What is known in one state is known in the other, of the same activation. -/
def Same (n : Nat) (s s' : St) : Prop := ∀ (b : Beg) (X : Ctx) (a : Act), b.n = n → Rel b X s a → ∃ X', Shr X X' ∧ Rel b X' s' a

/-- **The rounds that are still to come**, each from what the one ahead has left. -/
def Rnds (P : Program) (T : Goal P) (n : Nat) (ps : Array Tmp) (assign body : Code) (k : List Item) : List (List Value) → St → Prop
  | [], s => Goes P T n k s
  | x :: xs, s => x.length = ps.size ∧ AllLive s.heap ∧ n ≤ s.heap.length ∧ ∀ l rc, rc.state = .ready →
      Goes P (rndGoal P l rc fun j s' => Became s.heap s'.heap ∧ match j with
        | none => ∃ s'', Same n ⟨s.tmps, s'.heap⟩ s'' ∧ Rnds P T n ps assign body k xs s''
        | some c => Goes P T n (.code c :: k) ⟨s.tmps, s'.heap⟩) s.heap.length [.code assign, .beginRound, .code body] ⟨putPs s.tmps ps.toList x, s.heap⟩

theorem foldl_toList : ∀ (l : List (Tmp × Value)) (A : Array Value), (l.foldl (fun t p => t.setIfInBounds p.1 p.2) A).toList = l.foldl (fun t p => t.set p.1 p.2) A.toList
  | [], _ => rfl
  | p :: l, A => by
    simp only [List.foldl_cons]
    rw [foldl_toList l, Array.toList_setIfInBounds]

theorem relDs_foldl {X : Ctx} : ∀ (l : List (Tmp × Value)) {ds : List D} {us : List Value}, RelDs X ds us → RelDs X (l.foldl (fun t p => t.set p.1 (.v p.2)) ds) (l.foldl (fun t p => t.set p.1 p.2) us)
  | [], _, _, h => h
  | p :: l, ds, us, h => relDs_foldl l (relDs_set h (by simp only [RelD]))

theorem relDs_putPs {X : Ctx} {ts : List D} {tmps : Array Value} (h : RelDs X ts tmps.toList) (ps : Array Tmp) (x : List Value) :
    RelDs X (putPs ts ps.toList x) ((ps.zip x.toArray).foldl (fun t (p, v) => t.setIfInBounds p v) tmps).toList := by
  have e : ((ps.zip x.toArray).foldl (fun t (p, v) => t.setIfInBounds p v) tmps) = ((ps.toList.zip x).foldl (fun t p => t.setIfInBounds p.1 p.2) tmps) := by
    rw [← Array.foldl_toList, Array.toList_zip]
  rw [e, foldl_toList]
  exact relDs_foldl _ h

theorem bare_rel {X : Ctx} {caps : List D} {lb : List Value} (hcl : renDs (pos []) caps = caps ∧ inB [] (refsDs caps) = true) (h : RelDs X caps lb) : RelDs (bareX X.S X.w) caps lb := by
  have h1 := pack_rels (X := X) [] hcl.2 h
  rw [hcl.1] at h1
  refine Le.ds (X := packX X []) (Y := bareX X.S X.w) ⟨fun k hk => ⟨hk, rfl⟩, fun id => ?_⟩ h1
  unfold Pair
  have e : slot (packX X []).H id = .free := slot_out (by simp [packX, packH])
  rw [e]
  trivial

/-- The blocks of the rows. -/
def Rows' (X : Ctx) (k : Nat) : Prop := ∃ id l, hget X.H id ≠ none ∧ X.ρ id = some l ∧ l.b = k

theorem fn_inj {f : FuncId} {a b : List Value} (h : Value.func (.func f) #[] a.toArray = .func (.func f) #[] b.toArray) : a = b := by
  injection h with _ _ h3
  simpa using h3

theorem Steps.last {P : Program} {m m1 m2 : Machine} (h : Steps P m m1) (hs : step P m1 = .next m2) : Steps P m m2 := Steps.trans h (.one hs)

/-- **A range over a function.** -/
theorem goes_range {P : Program} {T : Goal P} (hro : T.ro = none) (hnm : T.nd = false) {n : Nat} {k : List Item} {s : St} {g : Operand} {ps : Array Tmp} {assign body : Code} {gf : FuncId} {caps : List D} {xs : List (List Value)}
    (hg : evalD s.tmps g = .fn gf caps) (hcl : renDs (pos []) caps = caps ∧ inB [] (refsDs caps) = true) (it : IterP P gf caps xs) (hR : Rnds P T n ps assign body k xs s) : Goes P T n (.code (.rangeFunc g ps assign body) :: k) s := by
  intro b X a fr cs hfr hb _ R
  rw [hro] at hfr
  -- the function
  have hev := evalD_rel R.mem R.tmps g
  rw [hg] at hev
  simp only [RelD] at hev
  obtain ⟨lb, elb, hcaps⟩ := hev
  obtain ⟨fn, hfn, hname, hbody⟩ := it.fn
  -- the two blocks
  obtain ⟨hlow, Ds, hds, hnd, hall⟩ := R.defers
  let D := X.w.heap.size
  let rc : Loop := { state := .ready, pending := none, fn := fr.fn, tmps := a.tmps, params := ps, assign := assign, body := body, defers := D }
  let w1 := (X.w.alloc (.deferred (some []))).alloc (.loop rc)
  have hgrow : Grew X.w w1 := (grew_alloc X.w _).trans (grew_alloc _ _)
  obtain ⟨M1, L1⟩ := mem_grew R.mem hgrow
  have hD1 : w1.heap[D]? = some (.deferred (some [])) := (heap_old _ _ _ (by simp [D])).trans (heap_new X.w _)
  have hl1 : w1.heap[D + 1]? = some (.loop rc) := by
    have := heap_new (X.w.alloc (.deferred (some []))) (.loop rc)
    rwa [show (X.w.alloc (.deferred (some []))).heap.size = D + 1 by simp [D]] at this
  have hbD : b.w.heap.size ≤ D := R.mem.size
  obtain ⟨M2, L2⟩ := mem_pin M1 hD1 (fun _ _ _ h => by cases h) hbD
  have hS1 : ¬ (X.S (D + 1) ∨ D + 1 = D) := by
    rintro (h | h)
    · have := R.mem.stab _ h
      omega
    · omega
  have hM : ∀ E ∈ D :: Ds, b.w.heap.size ≤ E ∧ (X.S E ∨ E = D) ∧ w1.heap[E]? = some (.deferred (some [])) := by
    intro E hE
    rcases List.mem_cons.1 hE with rfl | hE
    · exact ⟨hbD, .inr rfl, hD1⟩
    · obtain ⟨g1, g2, g3⟩ := hall E hE
      exact ⟨g1, .inl g2, by rw [hgrow.keep E (R.mem.stab E g2)]; exact g3⟩
  have hnd2 : (D :: Ds).Nodup := List.nodup_cons.2 ⟨fun h => by have := R.mem.stab D (hall D h).2.1; omega, hnd⟩
  let a2 : Act := { a with defers := { target := .collected D, args := #[] } :: a.defers }
  have hds2 : a2.defers = (D :: Ds).map (fun D => { target := .collected D, args := #[] }) := by show _ :: a.defers = _; rw [hds]; rfl
  -- what holds between the rounds
  let I : World → St → (Nat → Prop) → Prop := fun W s' U => ∃ X' : Ctx, X'.w = W ∧ Rel b X' s' a2 ∧ ¬ X'.S (D + 1) ∧ ∀ k, U k ↔ Rows' X' k ∨ k = D + 1
  let J : Nat → (Nat → Prop) → World → Prop := fun i U W => W.heap[D + 1]? = some (.loop rc) ∧ ∃ s', I W s' U ∧ Rnds P T n ps assign body k (xs.drop i) s'
  let Jx : World → Prop := fun W => ∃ c s' U, W.heap[D + 1]? = some (.loop { rc with state := .done, pending := some c }) ∧ I W s' U ∧ Goes P T n (.code c :: k) s'
  have hIgrew : ∀ W W' s' U, Grew W W' → I W s' U → I W' s' U := by
    rintro W W' s' U hgw ⟨X', rfl, R', hS', hU⟩
    obtain ⟨M', L'⟩ := mem_grew R'.mem hgw
    exact ⟨_, rfl, ⟨M', L'.ds R'.tmps, R'.heap, R'.len, R'.defers.le L'⟩, hS', hU⟩
  let X0 : Ctx := ⟨X.ρ, X.H, fun k => X.S k ∨ k = D, w1⟩
  have hI0 : I w1 s (fun k => Rows' X0 k ∨ k = D + 1) := ⟨X0, rfl, ⟨M2, L2.ds (L1.ds R.tmps), R.heap, R.len, hlow, D :: Ds, hds2, hnd2, hM⟩, hS1, fun k => Iff.rfl⟩
  -- one round
  have hround : ∀ i x U W, xs[i]? = some x → J i U W → Yields P (D + 1) x W fun c w' => Kept U W w' ∧ if c then ∃ U', J (i + 1) U' w' ∧ ∀ k, U' k → U k ∨ W.heap.size ≤ k else Jx w' := by
    rintro i x U W hx ⟨hrec, s', ⟨X', rfl, R', hS', hU⟩, hrnds⟩
    have hdrop : xs.drop i = x :: xs.drop (i + 1) := by
      obtain ⟨hi, he⟩ := List.getElem?_eq_some_iff.1 hx
      rw [List.drop_eq_getElem_cons hi, he]
    rw [hdrop] at hrnds
    obtain ⟨hxl, hlive, hnl, hgo⟩ := hrnds
    have hliveX : AllLive X'.H := by rw [R'.heap]; exact hlive
    have hy := run_yield (P := P) (args := x.toArray) hrec (by simp [rc, hxl])
    refine ⟨_, _, _, _, hy, fun c cs' => ?_⟩
    let b0 : Frame := { (default : Frame) with fn := fr.fn, kind := .normal, roundOf := some (D + 1) }
    let tm := (ps.zip x.toArray).foldl (fun t (p, v) => t.setIfInBounds p v) a.tmps
    have hfr0 : Frame.round (D + 1) fr.fn tm assign body .normal = b0.atR { tmps := tm, defers := [] } [.code assign, .beginRound, .code body] := by
      simp [Frame.round, Frame.atR, b0]
    have Mr := mem_self R'.mem hliveX
    have Rr : Rel (Beg.of X') X' ⟨putPs s'.tmps ps.toList x, s'.heap⟩ { tmps := tm, defers := [] } :=
      ⟨Mr, relDs_putPs R'.tmps ps x, R'.heap, by show X'.H.length ≤ s'.heap.length; rw [R'.heap]; exact Nat.le_refl _, R'.mem.stab, [], rfl, List.nodup_nil, fun D h => by simp at h⟩
    have hnB : ¬ (Beg.of X').B (D + 1) := by
      rintro ⟨id, l, h1, h2, h3⟩
      obtain ⟨r, hr⟩ := hliveX id h1
      exact row_block R'.mem hrec (loop_ne rc) (hget_live.2 hr) h2 h3
    obtain ⟨j, X2, s2, a3, todo, hsteps, hend, R2, hbec, hΨ⟩ := hgo (D + 1) rc rfl (Beg.of X') X' _ b0 (c :: cs') rfl (by show X'.H.length = _; rw [R'.heap]) (fun _ => rfl) Rr hrec hS' hnB
    -- the memory at its end
    have hlt : D + 1 < X'.w.heap.size := (Array.getElem?_eq_some_iff.1 hrec).1
    have hrec2 : X2.w.heap[D + 1]? = some (.loop { rc with state := .busy }) := by
      have := R2.mem.keep (D + 1) (by show D + 1 < (X'.w.putObj _ _).heap.size; rw [World.putObj_size]; exact hlt) hnB
      rw [this]
      exact World.putObj_heap_same hlt
    have hS2 : ¬ X2.S (D + 1) := by
      intro h
      rcases R2.mem.sup _ h with h | h | h
      · exact hS' h
      · have : (X'.w.putObj (D + 1) (.loop { rc with state := .busy })).heap.size ≤ D + 1 := h
        rw [World.putObj_size] at this
        omega
      · exact hnB h
    have hlp := putX_le (X := X') (o := .loop { rc with state := .busy }) hS'
    have M3 : Mem b (putX X' (D + 1) (.loop { rc with state := .busy })) := mem_put R'.mem hrec (loop_ne rc) hS' (by omega)
    have hM2 : Mem (Beg.of (putX X' (D + 1) (.loop { rc with state := .busy }))) X2 := R2.mem
    have hlen : b.n ≤ X'.H.length := by rw [R'.heap]; exact R'.len
    have M4 : Mem b X2 := mem_trans M3 hliveX hlen hM2
    have hbec' : Became X'.H X2.H := by rw [R'.heap, R2.heap]; exact hbec
    have L4 : Le X' X2 := hlp.trans (le_trans' M3 hliveX hM2 hbec')
    -- the record is told
    have M5 : ∀ o, Mem b (putX X2 (D + 1) o) := fun o => mem_put M4 hrec2 (loop_ne _) hS2 (by omega)
    have L5 : ∀ o, Le X' (putX X2 (D + 1) o) := fun o => L4.trans (putX_le hS2)
    have R5 : ∀ o, Rel b (putX X2 (D + 1) o) ⟨s'.tmps, s2.heap⟩ a2 := fun o =>
      ⟨M5 o, (L5 o).ds R'.tmps, R2.heap, by
        have h1 : X'.H.length ≤ s2.heap.length := R2.len
        exact Nat.le_trans hlen h1, R'.defers.le (L5 o)⟩
    have hB : ∀ k, (Beg.of (putX X' (D + 1) (.loop { rc with state := .busy }))).B k → Rows' X' k := by
      rintro k ⟨id, l, h1, h2, h3⟩
      exact ⟨id, l, hliveX.get h1, h2, h3⟩
    have hkept : ∀ o, Kept U X'.w (X2.w.putObj (D + 1) o) := by
      intro o
      refine ⟨?_, fun k hk hu => ?_⟩
      · rw [World.putObj_size]
        have := R2.mem.size
        have h0 : (X'.w.putObj (D + 1) (.loop { rc with state := .busy })).heap.size ≤ X2.w.heap.size := this
        rw [World.putObj_size] at h0
        exact h0
      · have hne : k ≠ D + 1 := fun e => hu ((hU k).2 (.inr e))
        rw [putObj_ne k hne]
        have := hM2.keep k (by show k < (X'.w.putObj _ _).heap.size; rw [World.putObj_size]; exact hk) (fun hb => hu ((hU k).2 (.inl (hB k hb))))
        rw [this]
        exact putObj_ne k hne
    have hfr2 : ∀ k, Rows' X2 k → U k ∨ X'.w.heap.size ≤ k := by
      rintro k ⟨id, l, h1, h2, rfl⟩
      rcases hM2.fresh id l h1 h2 with h | h
      · refine .inr ?_
        have h0 : (X'.w.putObj (D + 1) (.loop { rc with state := .busy })).heap.size ≤ l.b := h
        rw [World.putObj_size] at h0
        exact h0
      · exact .inl ((hU _).2 (.inl (hB _ h)))
    have hlt2 : D + 1 < X2.w.heap.size := (Array.getElem?_eq_some_iff.1 hrec2).1
    have endn : ∀ jump, (Instr.endRound (D + 1) jump).run P X2.w = .ok (.bool jump.isNone) (X2.w.putObj (D + 1) (.loop { ({ rc with state := .busy } : Loop) with state := if jump.isNone then .ready else .done, pending := jump })) := fun jump => run_endRound jump hrec2
    rw [← hfr0] at hsteps
    have stop : ∀ cd : Code, Goes P T n (.code cd :: k) ⟨s'.tmps, s2.heap⟩ → Jx (X2.w.putObj (D + 1) (.loop { rc with state := .done, pending := some cd })) := fun cd hcd =>
      ⟨cd, _, _, World.putObj_heap_same hlt2, ⟨putX X2 (D + 1) (.loop { rc with state := .done, pending := some cd }), rfl, R5 _, hS2, fun k => Iff.rfl⟩, hcd⟩
    match j, hend, hΨ with
    | none, hend, hΨ =>
      have hend : todo = [] := hend
      subst hend
      obtain ⟨s'', hsame, hrn⟩ := hΨ
      obtain ⟨X6, ⟨hw6, hS6, hblk⟩, R6⟩ := hsame b _ a2 hb (R5 (.loop rc))
      refine ⟨true, X2.w.putObj (D + 1) (.loop rc), ⟨hkept _, fun k => Rows' X6 k ∨ k = D + 1, ?_, ?_⟩, Steps.last hsteps ?_⟩
      · exact ⟨World.putObj_heap_same hlt2, s'', ⟨X6, hw6, R6, by rw [hS6]; exact hS2, fun k => Iff.rfl⟩, hrn⟩
      · rintro k (⟨id, l, h1, h2, rfl⟩ | rfl)
        · obtain ⟨id', g1, l', g2, g3⟩ := hblk id l h1 h2
          rw [← g3]
          exact hfr2 _ ⟨id', l', g1, g2, rfl⟩
        · exact .inl ((hU _).2 (.inr rfl))
      · exact stepR_round_end rfl rfl (endn none)
    | some .ret, hend, hΨ =>
      obtain ⟨r, rfl⟩ := hend
      exact ⟨false, _, ⟨hkept _, stop .ret hΨ⟩, Steps.last hsteps (stepR_round_ret rfl rfl (endn (some .ret)))⟩
    | some (.exit id), hend, hΨ =>
      obtain ⟨r, rfl, hx2⟩ := hend
      exact ⟨false, _, ⟨hkept _, stop (.exit id) hΨ⟩, Steps.last hsteps (stepR_round_exit rfl rfl hx2 (endn (some (.exit id))))⟩
  -- the iterator's call
  have hcall := it.run (D + 1) lb X0.S J Jx (fun i U W ⟨h0, s', ⟨X', hw', R', _, hU⟩, _⟩ k hk => by
      rcases (hU k).1 hk with ⟨id, l, h1, h2, rfl⟩ | rfl
      · rw [← hw']
        exact live_lt R'.mem h1 h2
      · exact (Array.getElem?_eq_some_iff.1 h0).1)
    (fun i U W W' hgw ⟨h1, s', h2, h3⟩ => ⟨by rw [hgw.keep _ (Array.getElem?_eq_some_iff.1 h1).1]; exact h1, s', hIgrew W W' s' U hgw h2, h3⟩)
    (fun W W' hgw ⟨c, s', U, h1, h2, h3⟩ => ⟨c, s', U, by rw [hgw.keep _ (Array.getElem?_eq_some_iff.1 h1).1]; exact h1, hIgrew W W' s' U hgw h2, h3⟩)
    hround (fun k => Rows' X0 k ∨ k = D + 1) w1 ⟨hl1, s, hI0, by rw [List.drop_zero]; exact hR⟩
    (fun k hk => ⟨M2.stab k hk, by
      rintro (⟨id, l, h1, h2, rfl⟩ | rfl)
      · exact M2.sep id l h1 h2 hk
      · exact hS1 hk⟩) M2.glob (bare_rel hcl (L2.ds (L1.ds hcaps)))
  obtain ⟨e, w3, fr3, ⟨⟨v, rfl⟩, hJ⟩, hs3, _, hleave⟩ := hcall (fr.atR a2 (.inRangeFunc (D + 1) :: k) :: cs)
  -- entering
  have henterL : (Instr.enterLoop fr.fn a.tmps ps assign body fr.roundOf).run P X.w = .ok (D + 1, [{ target := .collected D, args := #[] }]) w1 := by
    rw [hfr]
    exact run_enterLoop_outer _ _ _ _ _
  have heg : ∀ args w, (callFunc gf args).run P w = .ok (.enter gf args) w := by
    intro args w
    have h1' : fn.name ≠ "runtime.NumGoroutine" := by simpa using hname
    have h2' : fn.body ≠ none := fun e => by rw [e] at hbody; cases hbody
    simp [callFunc, go_sem, hfn, h1', h2']
  have hres : (resolve a.eval (rangeCall g (D + 1)) 0).run P w1 = .ok { target := .fn (.func gf) lb.toArray, args := #[.func (.yield (D + 1)) #[] #[]] } w1 := by
    simp only [resolve, elb]
    simp [go_sem]
  have hinv : (invoke (.fn (.func gf) lb.toArray) #[.func (.yield (D + 1)) #[] #[]]).run P w1 = .ok (.enter gf (#[.func (.yield (D + 1)) #[] #[]] ++ lb.toArray)) w1 := by
    simp [invoke, go_sem, heg]
  have hstep := stepR_rangeFunc (P := P) (b := fr) (a := a) (k := k) (cs := cs) (w := X.w) henterL hres hinv
  refine T.back _ _ _ _ _ hstep ?_
  obtain ⟨n3, hn3⟩ := hs3
  refine T.steps n3 hn3 ?_
  refine T.back _ _ _ _ _ (step_leave_returned hleave) ?_
  have efin : (fr.atR a2 (.inRangeFunc (D + 1) :: k)).finish v = fr.atR a2 (.endRangeFunc (D + 1) :: k) := finish_atR_inRangeFunc _ _
  rw [efin]
  rcases hJ with ⟨U', hrec, s', ⟨X', rfl, R', hS', _⟩, hrn⟩ | ⟨c, s', U', hrec, ⟨X', rfl, R', hS', _⟩, hgo⟩
  · rw [List.drop_length] at hrn
    refine T.back _ _ _ _ _ (stepR_endRangeFunc (run_endLoop hrec (by simp [rc]))) ?_
    have M6 := mem_put (o' := .loop { rc with state := .exhausted }) R'.mem hrec (loop_ne rc) hS' (by omega)
    have L6 := putX_le (X := X') (o := .loop { rc with state := .exhausted }) hS'
    exact hrn b _ a2 fr cs (by rw [hfr, hro]) hb (fun h => by rw [hnm] at h; cases h) ⟨M6, L6.ds R'.tmps, R'.heap, R'.len, R'.defers.le L6⟩
  · refine T.back _ _ _ _ _ (stepR_endRangeFunc (run_endLoop hrec (by simp))) ?_
    have M6 := mem_put (o' := .loop { ({ rc with state := .done, pending := some c } : Loop) with state := .exhausted }) R'.mem hrec (loop_ne _) hS' (by omega)
    have L6 := putX_le (X := X') (o := .loop { ({ rc with state := .done, pending := some c } : Loop) with state := .exhausted }) hS'
    exact hgo b _ a2 fr cs (by rw [hfr, hro]) hb (fun h => by rw [hnm] at h; cases h) ⟨M6, L6.ds R'.tmps, R'.heap, R'.len, R'.defers.le L6⟩

end Go.Proofs.YtnakmganodkliaaDoorAm
