/- A call: how it begins, and what is known when it has come back. -/
import Derived.Test.YtnakmganodkliaaAmG
set_option linter.unusedVariables false
set_option linter.unusedSimpArgs false
namespace Go.Proofs.YtnakmganodkliaaAm
open Go

mutual
theorem renD_congr {n : Nat} {f g : Nat → Nat} (h : ∀ k, k < n → f k = g k) : ∀ d : D, closedD n d = true → renD f d = renD g d
  | .v _, _ | .sl _ _ _ _, _ | .arr _ _, _ | .top, _ => rfl
  | .own id off len cap, hc => by
    simp only [closedD, decide_eq_true_eq] at hc
    simp only [renD, h id hc]
  | .ptr id i off, hc => by
    simp only [closedD, decide_eq_true_eq] at hc
    simp only [renD, h id hc]
  | .bsl id len sz, hc => by
    simp only [closedD, decide_eq_true_eq] at hc
    simp only [renD, h id hc]
  | .rptr cs, hc => by
    simp only [closedD] at hc
    simp only [renD, renDs_congr h cs hc]
  | .agg cs, hc => by
    simp only [closedD] at hc
    simp only [renD, renDs_congr h cs hc]
  | .fn _ cs, hc => by
    simp only [closedD] at hc
    simp only [renD, renDs_congr h cs hc]
  | .tup cs, hc => by
    simp only [closedD] at hc
    simp only [renD, renDs_congr h cs hc]
theorem renDs_congr {n : Nat} {f g : Nat → Nat} (h : ∀ k, k < n → f k = g k) : ∀ ds : List D, closedDs n ds = true → renDs f ds = renDs g ds
  | [], _ => rfl
  | d :: ds, hc => by
    simp only [closedDs, Bool.and_eq_true] at hc
    simp only [renDs, renD_congr h d hc.1, renDs_congr h ds hc.2]
end

theorem renRow_congr {n : Nat} {f g : Nat → Nat} (h : ∀ k, k < n → f k = g k) (r : Row) (hc : closedRow n r = true) : renRow f r = renRow g r := by
  cases r with
  | box ty cs => simp only [renRow, renDs_congr h cs (by simpa [closedRow] using hc)]
  | data _ _ _ => rfl

theorem ren_cap {cap : List Nat} {nid k : Nat} (h : k < cap.length) : ren cap nid k = cap.getD k 0 := by simp [ren, h]

theorem slot_map (l : List Row) (k : Nat) : slot (l.map .live) k = match l[k]? with | some r => .live r | none => .free := by
  unfold slot
  rw [List.getD_eq_getElem?_getD, List.getElem?_map]
  cases l[k]? <;> rfl

theorem hget_map (l : List Row) (k : Nat) : hget (l.map .live) k = l[k]? := by
  unfold hget
  rw [slot_map]
  cases l[k]? <;> rfl

theorem nodupB_iff : ∀ {l : List Nat}, nodupB l = true ↔ l.Nodup
  | [] => by simp [nodupB]
  | a :: l => by simp [nodupB, nodupB_iff (l := l)]

theorem getD_mem {cap : List Nat} {k : Nat} (h : k < cap.length) : cap.getD k 0 ∈ cap := by
  rw [List.getD_eq_getElem?_getD, List.getElem?_eq_getElem h]
  exact List.getElem_mem h

theorem getD_inj {cap : List Nat} (hnd : cap.Nodup) {i j : Nat} (hi : i < cap.length) (hj : j < cap.length) (h : cap.getD i 0 = cap.getD j 0) : i = j := by
  rw [List.getD_eq_getElem?_getD, List.getD_eq_getElem?_getD, List.getElem?_eq_getElem hi, List.getElem?_eq_getElem hj] at h
  exact (List.getElem_inj hnd).1 h

/-- The rows that are lent to a call, or given over into data, become blocks that nobody writes. -/
def softS (X : Ctx) (soft : List Nat) (k : Nat) : Prop := X.S k ∨ ∃ id, id ∈ soft ∧ hget X.H id ≠ none ∧ ∃ l, X.ρ id = some l ∧ l.b = k

def capρ (X : Ctx) (cap : List Nat) (k : Nat) : Option Loc := X.ρ (cap.getD k 0)

section
variable {P : Program} {b : Beg} {X : Ctx} {cap frz lent : List Nat} {pre : List Row} {nid : Nat}

/-- The callee's beginning. -/
def begOf (X : Ctx) (cap soft : List Nat) : Beg := ⟨X.w, capρ X cap, softS X soft, cap.length⟩

def ctxOf (X : Ctx) (cap soft : List Nat) (pre : List Row) : Ctx := ⟨capρ X cap, pre.map .live, softS X soft, X.w⟩

theorem pre_some (hl : pre.length = cap.length) {k : Nat} : hget (pre.map Slot.live) k ≠ none ↔ k < cap.length := by
  rw [hget_map, ← hl]
  constructor
  · intro h
    rcases Nat.lt_or_ge k pre.length with h1 | h1
    · exact h1
    · rw [List.getElem?_eq_none h1] at h
      exact absurd rfl h
  · intro h
    rw [List.getElem?_eq_getElem h]
    simp

theorem live_lt (M : Mem b X) {id : Nat} (h : hget X.H id ≠ none) {l : Loc} (hl : X.ρ id = some l) : l.b < X.w.heap.size := by
  cases hr : hget X.H id with
  | none => exact absurd hr h
  | some r =>
    have := M.rows id r hr
    rw [hl] at this
    exact this.lt

theorem soft_heap (soft : List Nat) : ∀ k, X.S k → softS X soft k ∧ X.w.heap[k]? = X.w.heap[k]? := fun _ h => ⟨.inl h, rfl⟩

/-- What we know of a value, in the callee's numbers. -/
theorem pair_in (soft : List Nat) (hl : pre.length = cap.length) (hrows : ∀ k r, pre[k]? = some r → hget X.H (cap.getD k 0) = some (renRow (ren cap nid) r)) :
    ∀ k, Pair X (ctxOf X cap soft pre) (if k < cap.length then cap.getD k 0 else X.H.length) k := by
  intro k
  by_cases hk : k < cap.length
  · rw [if_pos hk]
    have hk' : k < pre.length := by omega
    have h1 := hrows k pre[k] (List.getElem?_eq_getElem hk')
    have h2 : slot (ctxOf X cap soft pre).H k = .live pre[k] := by
      show slot (pre.map Slot.live) k = _
      rw [slot_map, List.getElem?_eq_getElem hk']
    unfold Pair
    rw [hget_live.1 h1, h2]
    refine ⟨?_, rfl⟩
    cases pre[k] with
    | box _ _ => simp [renRow, Comp]
    | data _ _ _ => simp [renRow, Comp]
  · rw [if_neg hk]
    have : slot X.H X.H.length = .free := by simp [slot]
    unfold Pair
    rw [this]
    trivial

theorem own_in {soft : List Nat} (hp : ∀ k, Pair X (ctxOf X cap soft pre) (if k < cap.length then cap.getD k 0 else X.H.length) k) {k off len : Nat} {c : Option Nat} {u : Value} (hk : k < cap.length)
    (h : RelD X (.own (cap.getD k 0) off len c) u) : RelD (ctxOf X cap soft pre) (.own k off len c) u := by
  have := relD_pair (h := fun i => i) hp (D.own k off len c) u (.inl (soft_heap _)) (by
    simp only [renD]
    rw [if_pos hk]
    exact h)
  simpa only [renD] using this

theorem ptr_in {soft : List Nat} (hp : ∀ k, Pair X (ctxOf X cap soft pre) (if k < cap.length then cap.getD k 0 else X.H.length) k) {k i off : Nat} {u : Value} (hk : k < cap.length)
    (h : RelD X (.ptr (cap.getD k 0) i off) u) : RelD (ctxOf X cap soft pre) (.ptr k i off) u := by
  have := relD_pair (h := fun i => i) hp (D.ptr k i off) u (.inl (soft_heap _)) (by
    simp only [renD]
    rw [if_pos hk]
    exact h)
  simpa only [renD] using this

theorem bsl_in {soft : List Nat} (hp : ∀ k, Pair X (ctxOf X cap soft pre) (if k < cap.length then cap.getD k 0 else X.H.length) k) {k len sz : Nat} {u : Value} (hk : k < cap.length)
    (h : RelD X (.bsl (cap.getD k 0) len sz) u) : RelD (ctxOf X cap soft pre) (.bsl k len sz) u := by
  have := relD_pair (h := fun i => i) hp (D.bsl k len sz) u (.inl (soft_heap _)) (by
    simp only [renD]
    rw [if_pos hk]
    exact h)
  simpa only [renD] using this

/-- A box that is lent, as memory that is only read. -/
theorem lent_box (M : Mem b X) {soft : List Nat} {id i off : Nat} {u : Value} (hs : id ∈ soft) {bt : TypeId} {cs : List D} (hr : hget X.H id = some (.box bt cs)) (h : RelD X (.ptr id i off) u) :
    ∃ a us, u = .pointer (some a) ∧ RelDs X (cs.drop off) us ∧ At (softS X soft) X.w (some a) us := by
  obtain ⟨l, acs, ty, hρ, e, hb, hcs, h0, us, e1, h1, _⟩ := ptr_cells M h hr
  subst e1
  refine ⟨⟨l.b, l.o + off, none⟩, us.drop off, e, relDs_drop off h1, ?_⟩
  intro j v hj
  refine ⟨_, rfl, ?_, ?_⟩
  · exact .inr ⟨id, hs, by rw [hr]; simp, l, hρ, rfl⟩
  · rw [add_plain, h0]
    rw [List.getElem?_drop] at hj
    unfold World.cell?
    simp only [hb]
    simpa using hj

theorem mem_callee (M : Mem b X) (hl : pre.length = cap.length) (hnd : (cap ++ frz).Nodup) (hcl : ∀ i ∈ cap, i ∉ lent) (hclosed : pre.all (closedRow cap.length) = true)
    (hrows : ∀ k r, pre[k]? = some r → hget X.H (cap.getD k 0) = some (renRow (ren cap nid) r)) :
    Mem (begOf X cap (lent ++ frz)) (ctxOf X cap (lent ++ frz) pre) := by
  have hlive : ∀ k, k < cap.length → hget X.H (cap.getD k 0) ≠ none := by
    intro k hk
    have hk' : k < pre.length := by omega
    rw [hrows k pre[k] (List.getElem?_eq_getElem hk')]
    simp
  have hsoft : ∀ k, k < cap.length → cap.getD k 0 ∉ lent ++ frz := by
    intro k hk hm
    have hm1 := getD_mem hk
    rcases List.mem_append.1 hm with h | h
    · exact hcl _ hm1 h
    · exact (List.nodup_append.1 hnd).2.2 _ hm1 _ h rfl
  refine ⟨rfl, rfl, rfl, Nat.le_refl _, ?_, ?_, ?_, ?_, fun _ _ _ => rfl, ?_, fun _ _ _ => rfl, fun _ h => h, fun _ h => .inl h⟩
  · intro i j p q hi hj hp hq hpq
    have hi' := (pre_some hl).1 hi
    have hj' := (pre_some hl).1 hj
    exact getD_inj (List.nodup_append.1 hnd).1 hi' hj' (M.inj _ _ _ _ (hlive i hi') (hlive j hj') hp hq hpq)
  · intro id r hr
    have hid : id < cap.length := (pre_some hl).1 (by show hget (ctxOf X cap (lent ++ frz) pre).H id ≠ none; rw [hr]; simp)
    have hr' : pre[id]? = some r := by rw [← hget_map]; exact hr
    have hrow := M.rows _ _ (hrows id r hr')
    have hcr : closedRow cap.length r = true := by
      rw [List.all_eq_true] at hclosed
      exact hclosed r (List.mem_of_getElem? hr')
    show RelRow _ r (X.ρ (cap.getD id 0))
    cases hρ : X.ρ (cap.getD id 0) with
    | none =>
      rw [hρ] at hrow
      cases r with
      | box _ _ => exact hrow
      | data _ _ _ => exact hrow
    | some l =>
      rw [hρ] at hrow
      obtain ⟨cs, ty, h1, h2, h3⟩ := hrow
      refine ⟨cs, ty, h1, h2, ?_⟩
      cases r with
      | box bt ds =>
        obtain ⟨e, us, e1, h4, h5⟩ := h3
        refine ⟨e, us, e1, ?_, h5⟩
        rw [renDs_congr (n := cap.length) (g := fun k => if k < cap.length then cap.getD k 0 else X.H.length) (fun k hk => by rw [ren_cap hk, if_pos hk]) ds (by simpa [closedRow] using hcr)] at h4
        have := relDs_pair (h := fun i => i) (pair_in (lent ++ frz) hl hrows) ds us (.inl (soft_heap _)) h4
        rwa [renDs_id] at this
      | data e t xs =>
        obtain ⟨e1, us, h4, h5, h6⟩ := h3
        exact ⟨e1, us, Reps_mono (RelE_mono (soft_heap _) t) xs us h4, h5, h6⟩
  · intro id p hid hp hS
    have hid' := (pre_some hl).1 hid
    rcases hS with hS | ⟨i, hi, hi2, l, hl1, hl2⟩
    · exact M.sep _ p (hlive id hid') hp hS
    · have := M.inj _ _ _ _ (hlive id hid') hi2 hp hl1 hl2.symm
      rw [← this] at hi
      exact hsoft id hid' hi
  · intro k hk
    rcases hk with hk | ⟨i, hi, hi2, l, hl1, hl2⟩
    · exact M.stab k hk
    · rw [← hl2]
      exact live_lt M hi2 hl1
  · intro id p hid hp
    exact .inr ⟨id, p, (pre_some hl).1 hid, hp, rfl⟩

theorem fit_own_ro (M : Mem b X) {rd : Nat → Option Row} (hrd : ∀ id r, rd id = some r → hget X.H id = some r) {soft : List Nat} {id off len : Nat} {c : Option Nat} {t' : Ty} {xs' xs : List t'.El} {u : Value}
    (hs : id ∈ soft) (hr : rowData rd id off len t' = some xs) (he : xs = xs') (h : RelD X (.own id off len c) u) : RelD (ctxOf X cap soft pre) (.sl false false t' xs') u := by
  obtain ⟨e, ys, hr1, hx⟩ := rowData_some hr
  subst hx
  subst he
  have hl := hrd _ _ hr1
  obtain ⟨A, c', us', e1, h1, h2, h3, h4, h5⟩ := own_data (S' := softS X soft) M (fun _ h => .inl h) hl (fun l hl' => .inr ⟨id, hs, by rw [hl]; simp, l, hl', rfl⟩) h
  simp only [RelD]
  exact ⟨A, c', us', e1, h1, h2, by simp, by simp, Reps_mono (RelE_mono (soft_heap soft) t') _ _ h3, h4⟩

mutual
theorem fit_rel (M : Mem b X) {rd : Nat → Option Row} (hrd : ∀ id r, rd id = some r → hget X.H id = some r) (soft : List Nat) (hl : pre.length = cap.length)
    (hrows : ∀ k r, pre[k]? = some r → hget X.H (cap.getD k 0) = some (renRow (ren cap nid) r)) :
    ∀ (d e : D) (u : Value) (ps : List Prop), fit rd (ren cap nid) soft d e = some ps → (∀ p ∈ ps, p) → closedD cap.length e = true → RelD X d u → RelD (ctxOf X cap soft pre) e u := by
  intro d e u ps h hps hce hr
  unfold fit at h
  split at h
  · simp only [Option.some.injEq] at h
    subst h
    have := hps _ (List.mem_singleton.2 rfl)
    subst this
    simpa only [RelD] using hr
  · simp only [Option.some.injEq] at h
    subst h
    have := hps _ (List.mem_singleton.2 rfl)
    subst this
    simp only [RelD] at hr ⊢
    exact ⟨none, 0, [], hr, Nat.le_refl _, fun _ => rfl, by simp, by simp, rfl, fun j u hj => by simp at hj⟩
  · split at h
    · rename_i ht
      subst ht
      simp only [Option.some.injEq] at h
      subst h
      have := hps _ (List.mem_singleton.2 rfl)
      subst this
      simp only [RelD] at hr ⊢
      obtain ⟨A, c, us, e, h1, h2, _, _, h5, h6⟩ := hr
      exact ⟨A, c, us, e, h1, h2, by simp, by simp, Reps_mono (RelE_mono (soft_heap soft) _) _ us h5, At_mono (soft_heap soft) h6⟩
    · cases h
  · split at h
    · rename_i ht
      subst ht
      simp only [Option.some.injEq] at h
      subst h
      have := hps _ (List.mem_singleton.2 rfl)
      subst this
      simp only [RelD] at hr ⊢
      obtain ⟨A, c, us, e, h1, h2, h3, _, h5, h6⟩ := hr
      exact ⟨A, c, us, e, h1, h2, h3, by simp, Reps_mono (RelE_mono (soft_heap soft) _) _ us h5, At_mono (soft_heap soft) h6⟩
    · cases h
  · split at h
    · rename_i hs
      split at h
      · rename_i xs hx
        simp only [Option.some.injEq] at h
        subst h
        exact fit_own_ro M hrd (by simpa using hs) hx (hps _ (List.mem_singleton.2 rfl)) hr
      · cases h
    · cases h
  · split at h
    · cases h
    · split at h
      all_goals split at h
      all_goals first
        | (cases h; done)
        | (simp only [Option.some.injEq] at h
           subst h
           simp only [List.mem_cons, List.not_mem_nil, or_false, forall_eq_or_imp, forall_eq] at hps
           simp only [closedD, decide_eq_true_eq] at hce
           have hp := pair_in (X := X) soft hl hrows
           have hid := hps.1
           rw [ren_cap hce] at hid
           subst hid
           obtain ⟨_, h2, h3⟩ := hps
           first
             | (subst h2; subst h3; exact own_in hp hce hr)
             | (obtain ⟨h3, h4⟩ := h3; subst h2; subst h3; subst h4; exact own_in hp hce hr))
  · split at h
    · rename_i ht
      subst ht
      simp only [Option.some.injEq] at h
      subst h
      have := hps _ (List.mem_singleton.2 rfl)
      subst this
      simp only [RelD] at hr ⊢
      obtain ⟨us, e, h1⟩ := hr
      exact ⟨us, e, Reps_mono (RelE_mono (soft_heap soft) _) _ us h1⟩
    · cases h
  · simp only [Option.some.injEq] at h
    subst h
    simp only [List.mem_cons, List.not_mem_nil, or_false, forall_eq_or_imp, forall_eq] at hps
    simp only [closedD, decide_eq_true_eq] at hce
    have hp := pair_in (X := X) soft hl hrows
    have hid := hps.1
    rw [ren_cap hce] at hid
    subst hid
    obtain ⟨_, h2, h3⟩ := hps
    subst h2
    subst h3
    exact ptr_in hp hce hr
  · split at h
    · cases h
    · simp only [Option.some.injEq] at h
      subst h
      simp only [List.mem_cons, List.not_mem_nil, or_false, forall_eq_or_imp, forall_eq] at hps
      simp only [closedD, decide_eq_true_eq] at hce
      have hp := pair_in (X := X) soft hl hrows
      have hid := hps.1
      rw [ren_cap hce] at hid
      subst hid
      obtain ⟨_, h2, h3⟩ := hps
      subst h2
      subst h3
      exact bsl_in hp hce hr
  · rename_i id i off cs'
    split at h
    · rename_i hs
      split at h
      · rename_i bt cs hx
        simp only [closedD] at hce
        obtain ⟨a, us, e, h1, h2⟩ := lent_box M (by simpa using hs) (hrd _ _ hx) hr
        simp only [RelD]
        exact ⟨a, us, e, fits_rel M hrd soft hl hrows _ cs' us ps h hps hce h1, h2⟩
      · cases h
    · cases h
  · rename_i cs cs'
    simp only [closedD] at hce
    simp only [RelD] at hr ⊢
    obtain ⟨us, e, h1⟩ := hr
    exact ⟨us, e, fits_rel M hrd soft hl hrows cs cs' us ps h hps hce h1⟩
  · rename_i g cs g' cs'
    split at h
    · rename_i hg
      subst hg
      simp only [closedD] at hce
      simp only [RelD] at hr ⊢
      obtain ⟨us, e, h1⟩ := hr
      exact ⟨us, e, fits_rel M hrd soft hl hrows cs cs' us ps h hps hce h1⟩
    · cases h
  · rename_i cs cs'
    simp only [closedD] at hce
    simp only [RelD] at hr ⊢
    obtain ⟨a, us, e, h1, h2⟩ := hr
    exact ⟨a, us, e, fits_rel M hrd soft hl hrows cs cs' us ps h hps hce h1, At_mono (soft_heap soft) h2⟩
  · cases h
termination_by _ e => SizeOf.sizeOf e
theorem fits_rel (M : Mem b X) {rd : Nat → Option Row} (hrd : ∀ id r, rd id = some r → hget X.H id = some r) (soft : List Nat) (hl : pre.length = cap.length)
    (hrows : ∀ k r, pre[k]? = some r → hget X.H (cap.getD k 0) = some (renRow (ren cap nid) r)) :
    ∀ (ds es : List D) (us : List Value) (ps : List Prop), fits rd (ren cap nid) soft ds es = some ps → (∀ p ∈ ps, p) → closedDs cap.length es = true → RelDs X ds us → RelDs (ctxOf X cap soft pre) es us
  | [], [], us, ps, h, hps, hce, hr => by simpa only [RelDs] using hr
  | d :: ds, e :: es, us, ps, h, hps, hce, hr => by
    simp only [fits] at h
    split at h
    · rename_i p q hp hq
      simp only [Option.some.injEq] at h
      subst h
      simp only [closedDs, Bool.and_eq_true] at hce
      simp only [RelDs] at hr ⊢
      obtain ⟨u, us', e1, h1, h2⟩ := hr
      exact ⟨u, us', e1, fit_rel M hrd soft hl hrows d e u p hp (fun x hx => hps x (List.mem_append_left _ hx)) hce.1 h1,
        fits_rel M hrd soft hl hrows ds es us' q hq (fun x hx => hps x (List.mem_append_right _ hx)) hce.2 h2⟩
    · cases h
  | [], _ :: _, us, ps, h, _, _, _ => by simp [fits] at h
  | _ :: _, [], us, ps, h, _, _, _ => by simp [fits] at h
termination_by _ es => SizeOf.sizeOf es
end

end
end Go.Proofs.YtnakmganodkliaaAm
