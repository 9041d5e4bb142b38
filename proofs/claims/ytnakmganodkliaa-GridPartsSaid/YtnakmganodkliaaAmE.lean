/- One operation does what is computed of it: all but calls of functions. -/
import Derived.Test.YtnakmganodkliaaAmD
set_option linter.unusedVariables false
set_option linter.unusedSimpArgs false
namespace Go.Proofs.YtnakmganodkliaaAm
open Go

section
variable {P : Program} {b : Beg} {X : Ctx}

theorem s_append_closed (M : Mem b X) {nid : Nat} (hf : slot X.H nid = .free) (hl : nid < X.H.length) (hn : b.n ≤ nid) (rd : Nat → Option Row) (hrd : ∀ id r, rd id = some r → hget X.H id = some r)
    {t t' e e' oty : TypeId} {z : List D} (ht : P.underlying t = some (.slice e)) (ht' : P.underlying t' = some (.slice e')) (hz : zeroD P e = some z)
    {ty : Ty} (hsz : ty.size = P.cellsOf e) (h0 : ty.size ≠ 0) {x : D} {ys : List ty.El} {u v0 : Value} (hx : (Ty.sl ty).ofCells rd [x] = some ys) (hu : RelD X x u)
    {nn : Bool} (hs0 : RelD X (.sl nn true ty []) v0) (hroom : roomy P e (List.length ys)) :
    ∃ v X', (Builtin.append_ #[t, t'] oty #[v0, u]).run P X.w = .ok v X'.w ∧ Mem b X' ∧ X'.H = X.H.set nid (.live (.data e ty ys)) ∧ Le X X' ∧ RelD X' (.own nid 0 (List.length ys) none) v := by
  obtain ⟨i, zv, hi, hz', hs, ho, rfl⟩ := zeroD_some hz
  have hsz' : ty.size = i.size := by rw [hsz]; simp [Program.cellsOf, hi]
  obtain ⟨A2, c2, vs, e2, h22, h23, h24, h25⟩ := src_data M rd hrd hx hu
  subst e2
  simp only [RelD] at hs0
  obtain ⟨A, c, us, ev, hc, hA, _, hk, hr0, hat⟩ := hs0
  have hc0 : c = 0 := by simpa using hk trivial
  subst hc0
  subst ev
  simp only [Reps] at hr0
  subst hr0
  cases ys with
  | nil =>
    simp only [Reps] at h24
    subst h24
    obtain ⟨M', L'⟩ := mem_virt M hf hl hn e ty
    refine ⟨.slice A 0 0, X.put nid (.live (.data e ty [])) none X.S X.w, run_append_none ht ht' hi X.w A A2 0 0 c2 (Nat.le_refl _) ?_, M', rfl, L', ?_⟩
    · exact run_firstCells_at (us := []) (by simp) (fun _ => rfl) h25 X.w rfl
    · simp only [RelD]
      rw [slot_put X _ _ _ _ hl]
      exact ⟨by simp, A, 0, rfl, Nat.le_refl _, fun _ => rfl, by simp, by simp, .inl rfl⟩
  | cons y ys =>
    have := s_append_grow (oty := oty) (sLen := 0) (sCap := 0) (c2 := c2) (xs := []) (us := []) M hf hl hn ht ht' hi hz' hsz' hs ho (A := A) (by simp [Reps]) h24 rfl (fun j u hj => by simp at hj) h25 (fun _ => rfl) h23 (by simp) (by simpa using hroom) h0
    simpa using this

/-- The machine does what was computed of the operation. -/
def Step (P : Program) (b : Beg) (X : Ctx) (nid : Nat) (o : Oper) (va : Operand → Value) (E : Eff) : Prop :=
  ∃ nx v X', (execOp va o).run P X.w = .ok nx X'.w ∧ (nx = .value v ∨ nx = .skip ∧ v = undef) ∧ Mem b X' ∧
    X'.H = setWrites (setAllocs X.H nid E.allocs) E.writes ∧ Le X X' ∧ RelD X' E.val v

theorem run_v {s : Sem Value} {v : Value} {w w' : World} (h : s.run P w = .ok v w') : (do pure (.value (← s)) : Sem Next).run P w = .ok (.value v) w' := by simp [h]

theorem run_u {s : Sem Unit} {w w' : World} (h : s.run P w = .ok () w') : (do s; pure .skip : Sem Next).run P w = .ok .skip w' := by simp [h]

theorem step_pure (M : Mem b X) {nid : Nat} {o : Oper} {va : Operand → Value} {d : D} {obl : List Prop} {v : Value} (hr : (execOp va o).run P X.w = .ok (.value v) X.w) (h : RelD X d v) : Step P b X nid o va { val := d, obl := obl } :=
  ⟨_, v, X, hr, .inl rfl, M, rfl, Le.refl X, h⟩

/-- Numbers from nid on are free. -/
def Free (X : Ctx) (nid n : Nat) : Prop := ∀ j, j < n → slot X.H (nid + j) = .free ∧ nid + j < X.H.length

theorem Free.one {nid : Nat} (h : Free X nid 1) : slot X.H nid = .free ∧ nid < X.H.length := h 0 (by omega)

theorem sizeB_some {t : TypeId} {s : Nat} (h : sizeB P t = some s) : ∃ i, P.info? t = some i ∧ (P.underlying t).isSome = true ∧ s = i.size := by
  unfold sizeB at h
  split at h
  · rename_i hu
    rw [Option.map_eq_some_iff] at h
    obtain ⟨i, hi, rfl⟩ := h
    exact ⟨i, hi, hu, rfl⟩
  · cases h

variable {nid : Nat} {sp : Sp} {o : Oper} {ev : Operand → D} {va : Operand → Value} {E : Eff} {rd : Nat → Option Row}

theorem op_move (M : Mem b X) (hev : ∀ x, RelD X (ev x) (va x)) {x : Operand} (ho : o.op = .move x ∨ o.op = .assign x) (h : opEff P rd nid sp o ev = some E) : Step P b X nid o va E := by
  rcases ho with ho | ho
  all_goals
    simp only [opEff, ho, Option.some.injEq] at h
    subst h
    exact step_pure M (v := va x) (by simp [execOp, ho]) (hev x)

theorem op_pick (M : Mem b X) (hev : ∀ x, RelD X (ev x) (va x)) {c x y : Operand} (ho : o.op = .pick c x y) (h : opEff P rd nid sp o ev = some E) : Step P b X nid o va E := by
  simp only [opEff, ho] at h
  split at h
  · rename_i t hc
    have hc' := hev c
    rw [hc] at hc'
    simp only [RelD] at hc'
    have hx := hev x
    have hy := hev y
    split at h
    · rename_i p q hp hq
      rw [hp] at hx
      rw [hq] at hy
      simp only [RelD] at hx hy
      simp only [Option.some.injEq] at h
      subst h
      refine step_pure M (v := .bool (cond t p q)) ?_ (by simp only [RelD])
      cases t <;> simp [execOp, ho, hc', hx, hy, asBool]
    · split at h
      all_goals
        simp only [Option.some.injEq] at h
        subst h
      · exact step_pure M (v := va x) (by simp [execOp, ho, hc', asBool]) hx
      · exact step_pure M (v := va y) (by simp [execOp, ho, hc', asBool]) hy
  · cases h

theorem op_alloc (M : Mem b X) {t : TypeId} (ho : o.op = .alloc t) (h : opEff P rd nid sp o ev = some E) (hf : Free X nid E.allocs.length) (hn : b.n ≤ nid) : Step P b X nid o va E := by
  simp only [opEff, ho, Option.map_eq_some_iff] at h
  obtain ⟨cs, hz, rfl⟩ := h
  obtain ⟨v, X', h1, h2, h3, h4, h5⟩ := s_alloc (P := P) M hf.one.1 hf.one.2 hn hz
  exact ⟨_, v, X', by simp only [execOp, ho]; exact run_v h1, .inl rfl, h2, h3, h4, h5⟩

theorem op_box (M : Mem b X) (hev : ∀ x, RelD X (ev x) (va x)) {t : TypeId} {x : Operand} (ho : o.op = .box t x) (h : opEff P rd nid sp o ev = some E) (hf : Free X nid E.allocs.length) (hn : b.n ≤ nid) : Step P b X nid o va E := by
  simp only [opEff, ho, Option.map_eq_some_iff] at h
  obtain ⟨cs, hz, rfl⟩ := h
  obtain ⟨v, X', h1, h2, h3, h4, h5⟩ := s_box (P := P) M hf.one.1 hf.one.2 hn t hz (hev x)
  exact ⟨_, v, X', by simp only [execOp, ho]; exact run_v h1, .inl rfl, h2, h3, h4, h5⟩

theorem op_build (M : Mem b X) (hev : ∀ x, RelD X (ev x) (va x)) {t : TypeId} {parts : Array (Nat × Operand)} (ho : o.op = .build t parts) (h : opEff P rd nid sp o ev = some E) : Step P b X nid o va E := by
  simp only [opEff, ho] at h
  split at h
  · rename_i fs z hu hz
    split at h
    · rename_i places hp
      rw [Option.map_eq_some_iff] at h
      obtain ⟨cs, hc, rfl⟩ := h
      obtain ⟨v, h1, h2⟩ := s_build_struct hev hu hz parts hp hc
      exact step_pure M (by simp only [execOp, ho]; exact run_v h1) h2
    · cases h
  · rename_i n e z hu hz
    split at h
    · rename_i ie hie
      rw [Option.map_eq_some_iff] at h
      obtain ⟨cs, hc, rfl⟩ := h
      obtain ⟨v, h1, h2⟩ := s_build_array hev hu hz parts hie hc
      exact step_pure M (by simp only [execOp, ho]; exact run_v h1) h2
    · cases h
  · cases h

theorem op_buildSlice (M : Mem b X) (hev : ∀ x, RelD X (ev x) (va x)) (hrd : ∀ id r, rd id = some r → hget X.H id = some r) {t : TypeId} {len : Nat} {parts : Array (Nat × Operand)} (ho : o.op = .buildSlice t len parts) (h : opEff P rd nid sp o ev = some E) (hf : Free X nid E.allocs.length) (hn : b.n ≤ nid) : Step P b X nid o va E := by
  simp only [opEff, ho] at h
  split at h
  · rename_i e hu
    split at h
    · rename_i ty z _ hz
      split at h
      · rename_i hg
        simp only [Bool.and_eq_true, decide_eq_true_eq] at hg
        split at h
        · rename_i cs hc
          split at h
          · simp only [Option.some.injEq] at h
            subst h
            obtain ⟨v, X', h1, h2, h3, h4, h5⟩ := s_buildSlice_box (P := P) M hf.one.1 hf.one.2 hn hev hu hz len parts hg.1.1 (by simpa using hg.1.2) hg.2 hc
            exact ⟨_, v, X', by simp only [execOp, ho]; exact run_v h1, .inl rfl, h2, h3, h4, h5⟩
          split at h
          · rename_i xs hxs
            split at h
            · rename_i hnd
              simp only [Option.some.injEq] at h
              subst h
              obtain ⟨v, X', h1, h2, h3, h4, h5⟩ := s_buildSlice (P := P) M hf.one.1 hf.one.2 hn rd hrd hev hu hz len parts hg.1.1 (by simpa using hg.1.2) hg.2 hc hxs hnd
              exact ⟨_, v, X', by simp only [execOp, ho]; exact run_v h1, .inl rfl, h2, h3, h4, h5⟩
            · cases h
          · cases h
        · cases h
      · cases h
    · cases h
  · cases h

theorem op_load (M : Mem b X) (hev : ∀ x, RelD X (ev x) (va x)) (hrd : ∀ id r, rd id = some r → hget X.H id = some r) {t : TypeId} {x : Operand} (ho : o.op = .load t x) (h : opEff P rd nid sp o ev = some E) (hob : ∀ p ∈ E.obl, p) : Step P b X nid o va E := by
  simp only [opEff, ho] at h
  split at h
  · rename_i s hs
    obtain ⟨i, hi, hu, rfl⟩ := sizeB_some hs
    have hx := hev x
    split at h
    · rename_i id k off he
      rw [he] at hx
      split at h
      · rename_i bt cs hr
        split at h
        · rename_i hfit
          rw [Option.map_eq_some_iff] at h
          obtain ⟨d, hd, rfl⟩ := h
          obtain ⟨v, h1, h2⟩ := s_load_box (P := P) M hi hu hx (hrd _ _ hr) hfit hd
          exact step_pure M (by simp only [execOp, ho]; exact run_v h1) h2
        · cases h
      · rename_i bt ty xs hr
        split at h
        · rename_i hfit
          rw [Option.map_eq_some_iff] at h
          obtain ⟨d, hd, rfl⟩ := h
          obtain ⟨v, h1, h2⟩ := s_load_data (P := P) M hi hu hx (hrd _ _ hr) hfit (hob _ (List.mem_singleton.2 rfl)) hd
          exact step_pure M (by simp only [execOp, ho]; exact run_v h1) h2
        · cases h
      · cases h
    · rename_i cs he
      rw [he] at hx
      split at h
      · rename_i hfit
        rw [Option.map_eq_some_iff] at h
        obtain ⟨d, hd, rfl⟩ := h
        obtain ⟨v, h1, h2⟩ := s_load_ro (P := P) hi hu hx hfit hd
        exact step_pure M (by simp only [execOp, ho]; exact run_v h1) h2
      · cases h
    · cases h
  · cases h

theorem op_store (M : Mem b X) (hev : ∀ x, RelD X (ev x) (va x)) (hrd : ∀ id r, rd id = some r → hget X.H id = some r) {t : TypeId} {x y : Operand} (ho : o.op = .store t x y) (h : opEff P rd nid sp o ev = some E) (hob : ∀ p ∈ E.obl, p) : Step P b X nid o va E := by
  simp only [opEff, ho] at h
  split at h
  · rename_i s cs hs hc
    obtain ⟨i, hi, hu, rfl⟩ := sizeB_some hs
    have hx := hev x
    split at h
    · rename_i hcl
      split at h
      · rename_i id k off he
        rw [he] at hx
        split at h
        · rename_i bt old hr
          split at h
          · rename_i hfit
            simp only [Option.some.injEq] at h
            subst h
            obtain ⟨X', h1, h2, h3, h4⟩ := s_store_box (P := P) M hi hx (hrd _ _ hr) hc (hev y) hcl hfit
            exact ⟨_, undef, X', by simp only [execOp, ho]; exact run_u h1, .inr ⟨rfl, rfl⟩, h2, h3, h4, by simp only [RelD]⟩
          · cases h
        · rename_i e ty xs hr
          split at h
          · rename_i hg
            simp only [Bool.and_eq_true, decide_eq_true_eq] at hg
            split at h
            · rename_i z hz
              simp only [Option.some.injEq] at h
              subst h
              obtain ⟨X', h1, h2, h3, h4⟩ := s_store_data (P := P) M rd hrd hi hx (hrd _ _ hr) hc (hev y) hcl hg.1 hg.2 (hob _ (List.mem_singleton.2 rfl)) hz
              exact ⟨_, undef, X', by simp only [execOp, ho]; exact run_u h1, .inr ⟨rfl, rfl⟩, h2, h3, h4, by simp only [RelD]⟩
            · cases h
          · cases h
        · cases h
      · cases h
    · cases h
  · cases h

theorem op_nilCheck (M : Mem b X) (hev : ∀ x, RelD X (ev x) (va x)) (hrd : ∀ id r, rd id = some r → hget X.H id = some r) {x : Operand} (ho : o.op = .nilCheck x) (h : opEff P rd nid sp o ev = some E) : Step P b X nid o va E := by
  simp only [opEff, ho] at h
  have hx := hev x
  split at h
  · rename_i id k off he
    rw [he] at hx
    split at h
    · rename_i r hr
      simp only [Option.some.injEq] at h
      subst h
      have hx' := hx
      simp only [RelD] at hx'
      rw [hget_live.1 (hrd _ _ hr)] at hx'
      obtain ⟨l, _, hv⟩ := hx'
      exact step_pure M (v := va x) (by simp [execOp, ho, hv]) hx
    · cases h
  · rename_i cs he
    rw [he] at hx
    simp only [Option.some.injEq] at h
    subst h
    have hx' := hx
    simp only [RelD] at hx'
    obtain ⟨a, us, hv, _⟩ := hx'
    exact step_pure M (v := va x) (by simp [execOp, ho, hv]) hx
  · cases h

theorem op_bin (M : Mem b X) (hev : ∀ x, RelD X (ev x) (va x)) {op : BinOp} {t t' : TypeId} {x y : Operand} (ho : o.op = .binOp op t x y t') (h : opEff P rd nid sp o ev = some E) (hob : ∀ p ∈ E.obl, p) : Step P b X nid o va E := by
  simp only [opEff, ho] at h
  split at h
  · rename_i v ps hb
    simp only [Option.some.injEq] at h
    subst h
    refine step_pure M (v := v) ?_ (by simp only [RelD])
    simp only [execOp, ho]
    exact run_v (s_bin hb (hev x) (hev y) hob x y)
  · rw [Option.map_eq_some_iff] at h
    obtain ⟨v, h, rfl⟩ := h
    refine step_pure M (v := v) ?_ (by simp only [RelD])
    simp only [execOp, ho]
    exact run_v (s_eq h (hev x) (hev y) x y)

theorem op_un (M : Mem b X) (hev : ∀ x, RelD X (ev x) (va x)) {op : UnOp} {t : TypeId} {x : Operand} (ho : o.op = .unOp op t x) (h : opEff P rd nid sp o ev = some E) : Step P b X nid o va E := by
  simp only [opEff, ho] at h
  have hx := hev x
  split at h
  · rename_i c he
    rw [he] at hx
    simp only [RelD] at hx
    simp only [Option.some.injEq] at h
    subst h
    exact step_pure M (v := .bool !c) (by simp [execOp, ho, hx, Op.unary]) (by simp only [RelD])
  · rename_i k n he
    rw [he] at hx
    simp only [RelD] at hx
    simp only [Option.some.injEq] at h
    subst h
    exact step_pure M (v := .int k (k.wrap (0 - n))) (by simp [execOp, ho, hx, Op.unary, Op.intArith]) (by simp only [RelD])
  · cases h

theorem op_convert (M : Mem b X) (hev : ∀ x, RelD X (ev x) (va x)) {s t : TypeId} {x : Operand} (ho : o.op = .convert s t x) (h : opEff P rd nid sp o ev = some E) (hob : ∀ p ∈ E.obl, p) : Step P b X nid o va E := by
  simp only [opEff, ho] at h
  have hx := hev x
  split at h
  · rename_i k k' n hu he
    rw [he] at hx
    simp only [RelD] at hx
    split at h
    · rename_i hs
      simp only [Option.some.injEq] at h
      subst h
      obtain ⟨ds, hds⟩ := Option.isSome_iff_exists.1 hs
      exact step_pure M (v := .int k (k.wrap n)) (by simp [execOp, ho, hx, convert, run_underlying hu, run_underlying hds, Conv.intToInt]) (by simp only [RelD])
    · cases h
  · cases h

theorem op_makeFunc (M : Mem b X) (hev : ∀ x, RelD X (ev x) (va x)) {f : FuncId} {first caps : Array Operand} (ho : o.op = .makeFunc (.func f) first caps) (h : opEff P rd nid sp o ev = some E) : Step P b X nid o va E := by
  simp only [opEff, ho] at h
  split at h
  · rename_i h0
    simp only [Option.some.injEq] at h
    subst h
    have hf0 : first = #[] := Array.size_eq_zero_iff.1 h0
    refine step_pure M (v := .func (.func f) #[] (caps.map va)) (by simp [execOp, ho, Instr.makeFunc, hf0]) ?_
    simp only [RelD]
    refine ⟨caps.toList.map va, by rw [← Array.toList_map], relDs_map _ fun x _ => hev x⟩
  · cases h

theorem own_forget {id off len k : Nat} {e : TypeId} {t : Ty} {xs : List t.El} {v : Value} (hs : slot X.H id = .live (.data e t xs)) (hk : xs.length ≤ off + k) (h : RelD X (.own id off len (some k)) v) : RelD X (.own id off len none) v := by
  simp only [RelD] at h ⊢
  rw [hs] at h ⊢
  obtain ⟨h1, A, c, h2, h3, h4, h5, h6, h7⟩ := h
  have := h5 k rfl
  subst this
  exact ⟨h1, A, c, h2, h3, h4, by simp, fun _ => hk, h7⟩

theorem op_makeSlice (M : Mem b X) (hev : ∀ x, RelD X (ev x) (va x)) (hrd : ∀ id r, rd id = some r → hget X.H id = some r) {t : TypeId} {l c : Operand} (ho : o.op = .makeSlice t l c) (h : opEff P rd nid sp o ev = some E) (hob : ∀ p ∈ E.obl, p) (hf : Free X nid E.allocs.length) (hn : b.n ≤ nid) : Step P b X nid o va E := by
  simp only [opEff, ho] at h
  have hl := hev l
  have hc := hev c
  split at h
  · rename_i e kl ln kc cn hu hel hec
    rw [hel] at hl
    rw [hec] at hc
    simp only [RelD] at hl hc
    split at h
    · rename_i ty z _ hz
      split at h
      · rename_i hg
        simp only [Bool.and_eq_true, decide_eq_true_eq] at hg
        split at h
        · rename_i y hy
          simp only [Option.some.injEq] at h
          subst h
          have o1 := hob (0 ≤ ln) (by simp)
          have o2 := hob (ln ≤ cn) (by simp)
          have o3 := hob (cn ≤ 9223372036854775807) (by simp)
          have o4 := hob (cn.toNat * P.bytesOf e ≤ 281474976710656) (by simp)
          obtain ⟨v, X', h1, h2, h3, h4, h5⟩ := s_makeSlice (P := P) M hf.one.1 hf.one.2 hn rd hrd hu hz hg.1 (by simpa using hg.2) hy kl kc ln cn o1 o2 o3 o4
          have h6 : RelD X' (.own nid 0 ln.toNat (capM l c cn.toNat)) v := by
            rcases capM_cases l c cn.toNat with ec | ec
            · rw [ec]; exact h5
            · rw [ec]
              refine own_forget (e := e) (t := ty) (xs := List.replicate cn.toNat y) ?_ (by simp) h5
              rw [h3]
              rw [slot_set, if_pos ⟨rfl, hf.one.2⟩]
          exact ⟨_, v, X', by simp only [execOp, ho, hl, hc]; exact run_v h1, .inl rfl, h2, h3, h4, h6⟩
        · cases h
      · cases h
    · cases h
  · cases h

theorem op_extract (M : Mem b X) (hev : ∀ x, RelD X (ev x) (va x)) {t : Operand} {i : Nat} (ho : o.op = .extract t i) (h : opEff P rd nid sp o ev = some E) : Step P b X nid o va E := by
  simp only [opEff, ho] at h
  have hx := hev t
  split at h
  · rename_i ds he
    rw [he] at hx
    simp only [RelD] at hx
    obtain ⟨us, hv, hr⟩ := hx
    rw [Option.map_eq_some_iff] at h
    obtain ⟨d, hd, rfl⟩ := h
    obtain ⟨u, hu, hr'⟩ := relDs_get hr hd
    exact step_pure M (v := u) (by simp [execOp, ho, hv, Instr.extract, hu]) hr'
  · cases h

end
end Go.Proofs.YtnakmganodkliaaAm
