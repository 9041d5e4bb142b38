/- Two operations that may come in either order come to the same. -/
import Derived.Test.YtnakmganodkliaaAmJ
set_option linter.unusedVariables false
set_option linter.unusedSimpArgs false
namespace Go.Proofs.YtnakmganodkliaaAm
open Go

theorem opEff_congr {P : Program} {rd : Nat → Option Row} {nid : Nat} {sp : Sp} {o : Oper} {ev ev' : Operand → D} (h : ∀ x ∈ o.op.operands, ev x = ev' x) : opEff P rd nid sp o ev = opEff P rd nid sp o ev' := by
  obtain ⟨dst, op, type, pos, after, guard⟩ := o
  have pairs : ∀ ps : Array (Nat × Operand), (∀ x ∈ ps.map (·.2), ev x = ev' x) → (ps.toList.map fun (i, x) => (i, ev x)) = (ps.toList.map fun (i, x) => (i, ev' x)) := fun ps hp =>
    List.map_congr_left fun p hm => by
      obtain ⟨i, x⟩ := p
      simp only [hp x (Array.mem_map.2 ⟨(i, x), Array.mem_toList_iff.1 hm, rfl⟩)]
  cases op
  case move x => simp only [opEff]; rw [h x (by simp [Op.operands])]
  case assign x => simp only [opEff]; rw [h x (by simp [Op.operands])]
  case pick c x y => simp only [opEff]; rw [h c (by simp [Op.operands]), h x (by simp [Op.operands]), h y (by simp [Op.operands])]
  case box t x => simp only [opEff]; rw [h x (by simp [Op.operands])]
  case build t ps => simp only [opEff]; rw [pairs ps fun x hx => h x (by simpa [Op.operands] using hx)]
  case buildSlice t n ps => simp only [opEff]; rw [pairs ps fun x hx => h x (by simpa [Op.operands] using hx)]
  case load t x => simp only [opEff]; rw [h x (by simp [Op.operands])]
  case store t x y => simp only [opEff]; rw [h x (by simp [Op.operands]), h y (by simp [Op.operands])]
  case nilCheck x => simp only [opEff]; rw [h x (by simp [Op.operands])]
  case binOp op t x y t' => simp only [opEff]; rw [h x (by simp [Op.operands]), h y (by simp [Op.operands])]
  case unOp op t x => simp only [opEff]; rw [h x (by simp [Op.operands])]
  case convert t t' x => simp only [opEff]; rw [h x (by simp [Op.operands])]
  case makeSlice t x y => simp only [opEff]; rw [h x (by simp [Op.operands]), h y (by simp [Op.operands])]
  case fieldAddr t x f => simp only [opEff]; rw [h x (by simp [Op.operands])]
  case indexAddr t x y => simp only [opEff]; rw [h x (by simp [Op.operands]), h y (by simp [Op.operands])]
  case index t x y => simp only [opEff]; rw [h x (by simp [Op.operands]), h y (by simp [Op.operands])]
  case extract t i => simp only [opEff]; rw [h t (by simp [Op.operands])]
  case slice t x lo hi mx =>
    have e1 : lo.map ev = lo.map ev' := by
      cases lo with
      | none => rfl
      | some y => simp only [Option.map_some]; rw [h y (by simp [Op.operands])]
    have e2 : hi.map ev = hi.map ev' := by
      cases hi with
      | none => rfl
      | some y => simp only [Option.map_some]; rw [h y (by simp [Op.operands])]
    have e3 : mx.map ev = mx.map ev' := by
      cases mx with
      | none => rfl
      | some y => simp only [Option.map_some]; rw [h y (by simp [Op.operands])]
    simp only [opEff]
    rw [h x (by simp [Op.operands]), e1, e2, e3]
  case makeFunc fn first captured =>
    cases fn <;> simp only [opEff]
    rw [List.map_congr_left (l := captured.toList) fun x hx => h x (by simp [Op.operands, Array.mem_toList_iff.1 hx])]
  case call c =>
    have hargs : c.args.toList.map ev = c.args.toList.map ev' := List.map_congr_left fun x hx => h x (by simp [Op.operands, Call.operands, Array.mem_toList_iff.1 hx])
    simp only [opEff]
    rw [hargs]
    cases hc : c.callee with
    | value f => have hf : ev f = ev' f := h f (by simp [Op.operands, Call.operands, hc]); simp only [hf]
    | invoke r m => rfl
    | builtin b => rfl
  all_goals rfl

theorem opEff_rd {P : Program} {rd rd' : Nat → Option Row} {nid : Nat} {sp : Sp} {o : Oper} {ev : Operand → D} (h : heapy o = false) : opEff P rd nid sp o ev = opEff P rd' nid sp o ev := by
  obtain ⟨dst, op, type, pos, after, guard⟩ := o
  cases op <;> simp only [heapy] at h
  all_goals first
    | (cases h; done)
    | rfl
    | skip
  case makeFunc fn first captured => cases fn <;> rfl
  case call c =>
    simp only [opEff]
    cases hc : c.callee with
    | value f => simp [hc] at h
    | invoke r m => rfl
    | builtin b =>
      simp only
      cases b <;> simp [hc] at h <;> rfl

theorem opEff_nowrite {P : Program} {rd : Nat → Option Row} {nid : Nat} {sp : Sp} {o : Oper} {ev : Operand → D} {E : Eff} (h : heapy o = false) (hE : opEff P rd nid sp o ev = some E) : E.writes = [] := by
  obtain ⟨dst, op, type, pos, after, guard⟩ := o
  cases op <;> simp only [heapy] at h
  all_goals first
    | (cases h; done)
    | skip
  case makeFunc fn first captured =>
    cases fn <;> simp only [opEff] at hE
    · split at hE
      · simp only [Option.some.injEq] at hE
        subst hE
        rfl
      · cases hE
    all_goals cases hE
  case call c =>
    simp only [opEff] at hE
    cases hc : c.callee with
    | value f => simp [hc] at h
    | invoke r m => rw [hc] at hE; cases hE
    | builtin b =>
      rw [hc] at hE
      simp only at hE
      unfold biEff at hE
      split at hE
      all_goals first
        | (simp [hc] at h; done)
        | ((try unfold lenEff at hE) <;> (try unfold capEff at hE) <;> (try unfold minEff at hE) <;> (try unfold maxEff at hE) <;> (repeat' split at hE) <;> first | (cases hE; done) | (simp only [Option.some.injEq] at hE; subst hE; rfl))
  all_goals
    simp only [opEff] at hE
    (repeat' split at hE) <;> first
      | (cases hE; done)
      | (simp only [Option.some.injEq] at hE; subst hE; rfl)
      | (rw [Option.map_eq_some_iff] at hE; obtain ⟨_, _, rfl⟩ := hE; rfl)

theorem setAllocs_set (rs : List Row) : ∀ (H : Heap) (n i : Nat) (s : Slot), (i < n ∨ n + rs.length ≤ i) → setAllocs (H.set i s) n rs = (setAllocs H n rs).set i s := by
  induction rs with
  | nil => intros; rfl
  | cons r rs ih =>
    intro H n i s h
    simp only [setAllocs]
    rw [List.set_comm _ _ (by simp at h; omega), ih _ _ _ _ (by simp at h; omega)]

theorem setAllocs_comm (rs qs : List Row) : ∀ (H : Heap) (n m : Nat), (n + rs.length ≤ m ∨ m + qs.length ≤ n) → setAllocs (setAllocs H n rs) m qs = setAllocs (setAllocs H m qs) n rs := by
  induction rs with
  | nil => intros; rfl
  | cons r rs ih =>
    intro H n m h
    simp only [setAllocs]
    rw [ih _ _ _ (by simp at h; omega), setAllocs_set qs H m n (.live r) (by simp at h; omega)]

theorem setWrites_allocs (ws : List (Nat × Option Row)) : ∀ (rs : List Row) (H : Heap) (n : Nat), (∀ p ∈ ws, p.1 < n ∨ n + rs.length ≤ p.1) → setWrites (setAllocs H n rs) ws = setAllocs (setWrites H ws) n rs := by
  induction ws with
  | nil => intros; rfl
  | cons w ws ih =>
    obtain ⟨id, r⟩ := w
    intro rs H n h
    simp only [setWrites]
    rw [← setAllocs_set rs H n id _ (h _ List.mem_cons_self), ih _ _ _ (fun p hp => h p (List.mem_cons_of_mem _ hp))]

theorem free_back {H : Heap} {n : Nat} {rs : List Row} {ws : List (Nat × Option Row)} {id : Nat} (h : slot (setWrites (setAllocs H n rs) ws) id = .free) (hl : id < H.length) : slot H id = .free := by
  have h1 : slot (setAllocs H n rs) id = .free := by
    induction ws generalizing H n rs with
    | nil => exact h
    | cons w ws ih =>
      obtain ⟨i, r⟩ := w
      simp only [setWrites] at h
      have h2 : slot ((setAllocs H n rs).set i (slotOf r)) id = .free := by
        have := ih (H := (setAllocs H n rs).set i (slotOf r)) (n := 0) (rs := []) h (by simpa [setAllocs_length] using hl)
        simpa [setAllocs] using this
      rw [slot_set] at h2
      split at h2
      · cases r <;> simp [slotOf] at h2
      · exact h2
  rcases Nat.lt_or_ge id n with hn | hn
  · rwa [slot_setAllocs_out rs H n (.inl hn)] at h1
  · rcases Nat.lt_or_ge id (n + rs.length) with h3 | h3
    · have := slot_setAllocs_in rs H n (j := id - n) (r := rs[id - n]'(by omega)) (List.getElem?_eq_getElem (by omega)) (by omega)
      rw [show n + (id - n) = id by omega, h1] at this
      cases this
    · rwa [slot_setAllocs_out rs H n (.inr h3)] at h1

theorem freeB_iff {H : Heap} {n k : Nat} : freeB H n k = true ↔ ∀ j, j < k → n + j < H.length ∧ slot H (n + j) = .free := by
  unfold freeB
  rw [List.all_eq_true]
  constructor
  · intro h j hj
    have := h j (List.mem_range.2 hj)
    simp only [Bool.and_eq_true, decide_eq_true_eq] at this
    refine ⟨this.1, ?_⟩
    have h2 := this.2
    split at h2
    · assumption
    · cases h2
  · intro h j hj
    have := h j (List.mem_range.1 hj)
    simp [this.1, this.2]

theorem hget_free {H : Heap} {id : Nat} (h : slot H id = .free) : hget H id = none := by unfold hget; rw [h]

/-- Neither looks at what the other does. -/
structure Indep (ops : Array Oper) (x y : Dec) : Prop where
  apart : x.o.apart ops y.o = true
  rng : x.nid + x.cnt ≤ y.nid ∨ y.nid + y.cnt ≤ x.nid
  fy : ∀ j, j < x.cnt → x.nid + j ∈ y.forb
  fx : ∀ j, j < y.cnt → y.nid + j ∈ x.forb
  wx : x.wr = true → heapy y.o = false
  wy : y.wr = true → heapy x.o = false

theorem evalD_put {tmps : List D} {dst : Option Tmp} {v : D} {x : Operand} (h : ∀ d, dst = some d → x ≠ .tmp d) : evalD (putD tmps dst v) x = evalD tmps x := by
  cases dst with
  | none => rfl
  | some d =>
    cases x with
    | tmp t =>
      have hne : d ≠ t := fun e => h d rfl (e ▸ rfl)
      simp [evalD, putD, List.getElem?_set_ne hne]
    | _ => rfl

theorem opEff_put {P : Program} {ops : Array Oper} {rd : Nat → Option Row} {nid : Nat} {sp : Sp} {o : Oper} {tmps : List D} {dst : Option Tmp} {v : D} (h : ∀ d, dst = some d → d ∉ o.looksAt ops) :
    opEff P rd nid sp o (evalD (putD tmps dst v)) = opEff P rd nid sp o (evalD tmps) :=
  opEff_congr fun x hx => evalD_put fun d hd hxd => h d hd (by
    subst hxd
    exact List.mem_append_left _ (List.mem_filterMap.2 ⟨.tmp d, by simpa using hx, rfl⟩))

theorem effD_put {P : Program} {ops : Array Oper} {rd : Nat → Option Row} {d : Dec} {tmps : List D} {dst : Option Tmp} {v : D} (h : ∀ t, dst = some t → t ∉ d.o.looksAt ops) :
    effD P rd d (evalD (putD tmps dst v)) = effD P rd d (evalD tmps) := by
  unfold effD
  rw [opEff_put h]

theorem effD_rd {P : Program} {rd rd' : Nat → Option Row} {d : Dec} {ev : Operand → D} (h : heapy d.o = false) : effD P rd d ev = effD P rd' d ev := by
  unfold effD
  rw [opEff_rd h]

theorem effD_nowrite {P : Program} {rd : Nat → Option Row} {d : Dec} {ev : Operand → D} {E : Eff} (h : heapy d.o = false) (hE : effD P rd d ev = some E) : E.writes = [] := by
  unfold effD at hE
  split at hE
  · rename_i E0 h0
    have := opEff_nowrite h h0
    unfold fixE at hE
    split at hE
    · simp only [Option.some.injEq] at hE
      subst hE
      exact this
    · split at hE
      · simp only [Option.some.injEq] at hE
        subst hE
        exact this
      · cases hE
  · cases hE

theorem wantedD_put {ops : Array Oper} {o : Oper} {tmps : List D} {dst : Option Tmp} {v : D} (h : ∀ d, dst = some d → d ∉ o.looksAt ops) : wantedD ops (putD tmps dst v) o = wantedD ops tmps o := by
  cases dst with
  | none => rfl
  | some d =>
    unfold wantedD
    cases hg : o.guard with
    | none => rfl
    | some gw =>
      obtain ⟨g, want⟩ := gw
      simp only
      cases ht : (ops[g]?).bind (·.dst) with
      | none => rfl
      | some t =>
        have hne : d ≠ t := fun e => h d rfl (by subst e; simp [Oper.looksAt, hg, ht])
        simp [putD, List.getElem?_set_ne hne]

theorem putD_comm (tmps : List D) {x y : Option Tmp} (v u : D) (h : ∀ d, x = some d → y ≠ some d) : putD (putD tmps x v) y u = putD (putD tmps y u) x v := by
  cases x with
  | none => rfl
  | some d =>
    cases y with
    | none => rfl
    | some e =>
      have hne : d ≠ e := fun he => h d rfl (he ▸ rfl)
      simp only [putD]
      exact List.set_comm _ _ hne

/-- Does the step, with the effect that it has, pass the looks? -/
def okE (d : Dec) (H : Heap) (E : Eff) : Bool := (d.wr || E.writes.isEmpty) && decide (E.allocs.length ≤ d.cnt) && freeB H d.nid E.allocs.length && E.writes.all (fun p => (rdOf H d.forb p.1).isSome)

theorem stepD_cases {P : Program} {ops : Array Oper} {d : Dec} {s s' : St} {ps : List Prop} (h : stepD P ops d s = some (s', ps)) :
    (wantedD ops s.tmps d.o = some false ∧ s' = ⟨putD s.tmps d.o.dst (.v undef), s.heap⟩ ∧ ps = []) ∨
    (wantedD ops s.tmps d.o = some true ∧ ∃ E, effD P (rdOf s.heap d.forb) d (evalD s.tmps) = some E ∧ okE d s.heap E = true ∧
      s' = ⟨putD s.tmps d.o.dst E.val, setWrites (setAllocs s.heap d.nid E.allocs) E.writes⟩ ∧ ps = E.obl) := by
  unfold stepD at h
  split at h
  · rename_i hw
    split at h
    · rename_i E hE
      split at h
      · rename_i hg
        simp only [Option.some.injEq, Prod.mk.injEq] at h
        exact .inr ⟨hw, E, hE, hg, h.1.symm, h.2.symm⟩
      · cases h
    · cases h
  · rename_i hw
    simp only [Option.some.injEq, Prod.mk.injEq] at h
    exact .inl ⟨hw, h.1.symm, h.2.symm⟩
  · cases h

theorem stepD_no {P : Program} {ops : Array Oper} {d : Dec} {s : St} (h : wantedD ops s.tmps d.o = some false) : stepD P ops d s = some (⟨putD s.tmps d.o.dst (.v undef), s.heap⟩, []) := by
  unfold stepD
  rw [h]

theorem stepD_yes {P : Program} {ops : Array Oper} {d : Dec} {s : St} {E : Eff} (h : wantedD ops s.tmps d.o = some true) (hE : effD P (rdOf s.heap d.forb) d (evalD s.tmps) = some E) (hk : okE d s.heap E = true) :
    stepD P ops d s = some (⟨putD s.tmps d.o.dst E.val, setWrites (setAllocs s.heap d.nid E.allocs) E.writes⟩, E.obl) := by
  unfold stepD
  rw [h]
  simp only [hE]
  rw [if_pos (by simpa [okE] using hk)]

theorem rdOf_allocs {H : Heap} {forb : List Nat} {n : Nat} {rs : List Row} (h : ∀ j, j < rs.length → n + j ∈ forb) : rdOf (setAllocs H n rs) forb = rdOf H forb := by
  funext id
  unfold rdOf
  split
  · rfl
  · rename_i hn
    unfold hget
    rw [slot_setAllocs_out rs H n]
    rcases Nat.lt_or_ge id n with h1 | h1
    · exact .inl h1
    · rcases Nat.lt_or_ge id (n + rs.length) with h2 | h2
      · exact absurd (by simpa using (show id ∈ forb by rw [show id = n + (id - n) by omega]; exact h (id - n) (by omega))) hn
      · exact .inr h2

structure OkE (d : Dec) (H : Heap) (E : Eff) : Prop where
  wr : d.wr = true ∨ E.writes = []
  cnt : E.allocs.length ≤ d.cnt
  free : ∀ j, j < E.allocs.length → d.nid + j < H.length ∧ slot H (d.nid + j) = .free
  live : ∀ p ∈ E.writes, (rdOf H d.forb p.1).isSome = true

theorem okE_iff {d : Dec} {H : Heap} {E : Eff} : okE d H E = true ↔ OkE d H E := by
  unfold okE
  simp only [Bool.and_eq_true, Bool.or_eq_true, decide_eq_true_eq, freeB_iff, List.all_eq_true, List.isEmpty_iff]
  exact ⟨fun ⟨⟨⟨a, b⟩, c⟩, d⟩ => ⟨a, b, c, d⟩, fun ⟨a, b, c, d⟩ => ⟨⟨⟨a, b⟩, c⟩, d⟩⟩

theorem wr_range {d : Dec} {H : Heap} {E : Eff} (h : OkE d H E) {n k : Nat} (hf : ∀ j, j < k → slot H (n + j) = .free) : ∀ p ∈ E.writes, p.1 < n ∨ n + k ≤ p.1 := by
  intro p hp
  have h1 := h.live p hp
  obtain ⟨r, hr⟩ := Option.isSome_iff_exists.1 h1
  have h2 := rdOf_some hr
  rcases Nat.lt_or_ge p.1 n with h3 | h3
  · exact .inl h3
  · rcases Nat.lt_or_ge p.1 (n + k) with h4 | h4
    · have := hget_free (hf (p.1 - n) (by omega))
      rw [show n + (p.1 - n) = p.1 by omega, h2] at this
      cases this
    · exact .inr h4

theorem rdOf_after {x y : Dec} {H : Heap} {Ex : Eff} (hx : OkE x H Ex) (hw : Ex.writes = []) (hf : ∀ j, j < x.cnt → x.nid + j ∈ y.forb) : rdOf (setWrites (setAllocs H x.nid Ex.allocs) Ex.writes) y.forb = rdOf H y.forb := by
  rw [hw]
  exact rdOf_allocs fun j hj => hf j (Nat.lt_of_lt_of_le hj hx.cnt)

theorem opEff_after {P : Program} {x y : Dec} {H : Heap} {Ex : Eff} {ev : Operand → D} (hx : OkE x H Ex) (hf : ∀ j, j < x.cnt → x.nid + j ∈ y.forb) (hwx : x.wr = true → heapy y.o = false) :
    effD P (rdOf (setWrites (setAllocs H x.nid Ex.allocs) Ex.writes) y.forb) y ev = effD P (rdOf H y.forb) y ev := by
  rcases hx.wr with h | h
  · exact effD_rd (hwx h)
  · rw [rdOf_after hx h hf]

theorem heaps_comm {ops : Array Oper} {x y : Dec} {H : Heap} {Ex Ey : Eff} (hI : Indep ops x y) (hx : OkE x H Ex) (hy : OkE y H Ey) (h : Ex.writes = [] ∨ Ey.writes = []) :
    setWrites (setAllocs (setWrites (setAllocs H x.nid Ex.allocs) Ex.writes) y.nid Ey.allocs) Ey.writes = setWrites (setAllocs (setWrites (setAllocs H y.nid Ey.allocs) Ey.writes) x.nid Ex.allocs) Ex.writes := by
  have hr : x.nid + Ex.allocs.length ≤ y.nid ∨ y.nid + Ey.allocs.length ≤ x.nid := by
    have := hx.cnt
    have := hy.cnt
    rcases hI.rng with h | h <;> omega
  have h1 := wr_range hx (fun j hj => (hy.free j hj).2)
  have h2 := wr_range hy (fun j hj => (hx.free j hj).2)
  rcases h with h | h
  · rw [h]
    simp only [setWrites]
    rw [setAllocs_comm _ _ H _ _ hr, setWrites_allocs _ _ _ _ h2]
  · rw [h]
    simp only [setWrites]
    rw [← setWrites_allocs _ _ _ _ h1, setAllocs_comm _ _ H _ _ hr]

theorem stepD_comm {P : Program} {ops : Array Oper} {x y : Dec} {s s1 s2 : St} {p q : List Prop} (hI : Indep ops x y) (h1 : stepD P ops x s = some (s1, p)) (h2 : stepD P ops y s1 = some (s2, q)) :
    ∃ s3, stepD P ops y s = some (s3, q) ∧ stepD P ops x s3 = some (s2, p) := by
  obtain ⟨a1, a2, a3⟩ := Oper.apart_spec hI.apart
  have a1' : ∀ d, x.o.dst = some d → d ∉ y.o.looksAt ops := a1
  have noX : ∀ (v : D) (H : Heap), wantedD ops s.tmps x.o = some false → stepD P ops x ⟨putD s.tmps y.o.dst v, H⟩ = some (⟨putD (putD s.tmps y.o.dst v) x.o.dst (.v undef), H⟩, []) := fun v H w =>
    stepD_no (s := ⟨putD s.tmps y.o.dst v, H⟩) (by show wantedD ops (putD _ _ _) _ = _; rw [wantedD_put a3]; exact w)
  have yesX : ∀ (v : D) (H : Heap) (E : Eff), wantedD ops s.tmps x.o = some true → effD P (rdOf H x.forb) x (evalD s.tmps) = some E → okE x H E = true →
      stepD P ops x ⟨putD s.tmps y.o.dst v, H⟩ = some (⟨putD (putD s.tmps y.o.dst v) x.o.dst E.val, setWrites (setAllocs H x.nid E.allocs) E.writes⟩, E.obl) := fun v H E w hE hk =>
    stepD_yes (s := ⟨putD s.tmps y.o.dst v, H⟩) (by show wantedD ops (putD _ _ _) _ = _; rw [wantedD_put a3]; exact w) (by show effD _ _ _ (evalD (putD _ _ _)) = _; rw [effD_put a3]; exact hE) hk
  rcases stepD_cases h1 with ⟨w1, e1, rfl⟩ | ⟨w1, Ex, hEx, kx, e1, rfl⟩
  · subst e1
    rcases stepD_cases h2 with ⟨w2, e2, rfl⟩ | ⟨w2, Ey, hEy, ky, e2, rfl⟩
    · subst e2
      simp only at w2
      rw [wantedD_put a1] at w2
      refine ⟨_, stepD_no w2, ?_⟩
      rw [noX _ _ w1, putD_comm _ _ _ a2]
    · subst e2
      simp only at w2 hEy ky
      rw [wantedD_put a1] at w2
      rw [effD_put a1] at hEy
      refine ⟨_, stepD_yes w2 hEy ky, ?_⟩
      rw [noX _ _ w1, putD_comm _ _ _ a2]
  · subst e1
    have kx' := okE_iff.1 kx
    rcases stepD_cases h2 with ⟨w2, e2, rfl⟩ | ⟨w2, Ey, hEy, ky, e2, rfl⟩
    · subst e2
      simp only at w2
      rw [wantedD_put a1] at w2
      refine ⟨_, stepD_no w2, ?_⟩
      rw [yesX _ _ _ w1 hEx kx, putD_comm _ _ _ a2]
    · subst e2
      simp only at w2 hEy ky
      rw [wantedD_put a1] at w2
      rw [effD_put a1, opEff_after kx' hI.fy hI.wx] at hEy
      have ky' := okE_iff.1 ky
      have hfree : ∀ j, j < Ey.allocs.length → y.nid + j < s.heap.length ∧ slot s.heap (y.nid + j) = .free := by
        intro j hj
        obtain ⟨g1, g2⟩ := ky'.free j hj
        rw [setWrites_length, setAllocs_length] at g1
        exact ⟨g1, free_back g2 g1⟩
      have hnone : Ex.writes = [] ∨ Ey.writes = [] := by
        rcases kx'.wr with h | h
        · exact .inr (effD_nowrite (hI.wx h) hEy)
        · exact .inl h
      have ky2 : OkE y s.heap Ey := by
        refine ⟨ky'.wr, ky'.cnt, hfree, ?_⟩
        rcases hnone with h | h
        · have := ky'.live
          rw [rdOf_after kx' h hI.fy] at this
          exact this
        · rw [h]
          simp
      refine ⟨_, stepD_yes w2 hEy (okE_iff.2 ky2), ?_⟩
      have hEx' : effD P (rdOf (setWrites (setAllocs s.heap y.nid Ey.allocs) Ey.writes) x.forb) x (evalD s.tmps) = some Ex := by
        rw [opEff_after ky2 hI.fx hI.wy]
        exact hEx
      have kx2 : OkE x (setWrites (setAllocs s.heap y.nid Ey.allocs) Ey.writes) Ex := by
        refine ⟨kx'.wr, kx'.cnt, ?_, ?_⟩
        · intro j hj
          obtain ⟨g1, g2⟩ := kx'.free j hj
          refine ⟨by rw [setWrites_length, setAllocs_length]; exact g1, ?_⟩
          have hw := wr_range ky2 (fun j hj => (kx'.free j hj).2)
          have hr : x.nid + Ex.allocs.length ≤ y.nid ∨ y.nid + Ey.allocs.length ≤ x.nid := by
            have := kx'.cnt
            have := ky2.cnt
            rcases hI.rng with h | h <;> omega
          rw [slot_setWrites _ _ _ (fun p hp => by have := hw p hp; omega), slot_setAllocs_out _ _ _ (by omega)]
          exact g2
        · rcases hnone with h | h
          · rw [h]
            simp
          · rw [rdOf_after ky2 h hI.fx]
            exact kx'.live
      rw [yesX _ _ _ w1 hEx' (okE_iff.2 kx2), putD_comm _ _ _ a2, heaps_comm hI kx' ky2 hnone]

end Go.Proofs.YtnakmganodkliaaAm
