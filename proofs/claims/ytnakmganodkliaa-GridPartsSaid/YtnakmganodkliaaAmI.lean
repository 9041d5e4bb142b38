/- A call has come back: what is known then. -/
import Derived.Test.YtnakmganodkliaaAmH
set_option linter.unusedVariables false
set_option linter.unusedSimpArgs false
namespace Go.Proofs.YtnakmganodkliaaAm
open Go

theorem slot_setWrites_mem : ∀ (ws : List (Nat × Option Row)) (H : Heap) {id : Nat} {r : Option Row}, (ws.map Prod.fst).Nodup → (id, r) ∈ ws → id < H.length → slot (setWrites H ws) id = slotOf r
  | [], _, _, _, _, hm, _ => by simp at hm
  | (i, r0) :: ws, H, id', r, hnd, hm, hl => by
    simp only [List.map_cons, List.nodup_cons] at hnd
    simp only [setWrites]
    rcases List.mem_cons.1 hm with h | h
    · cases h
      rw [slot_setWrites ws _ _ (fun p hp e => hnd.1 (by rw [← e]; exact List.mem_map_of_mem hp)), slot_set]
      simp [hl]
    · exact slot_setWrites_mem ws _ hnd.2 h (by simpa using hl)

theorem setAllocs_length : ∀ (rs : List Row) (H : Heap) (n : Nat), (setAllocs H n rs).length = H.length
  | [], _, _ => rfl
  | r :: rs, H, n => by simp only [setAllocs]; rw [setAllocs_length rs]; simp

theorem slot_setAllocs_out : ∀ (rs : List Row) (H : Heap) (n : Nat) {id : Nat}, (id < n ∨ n + rs.length ≤ id) → slot (setAllocs H n rs) id = slot H id
  | [], _, _, _, _ => rfl
  | r :: rs, H, n, id, h => by
    simp only [setAllocs]
    rw [slot_setAllocs_out rs _ (n + 1) (by simp at h; omega), slot_set, if_neg (by simp at h; omega)]

theorem slot_setAllocs_in : ∀ (rs : List Row) (H : Heap) (n : Nat) {j : Nat} {r : Row}, rs[j]? = some r → n + j < H.length → slot (setAllocs H n rs) (n + j) = .live r
  | [], _, _, _, _, h, _ => by simp at h
  | r0 :: rs, H, n, 0, r, h, hl => by
    simp only [List.getElem?_cons_zero, Option.some.injEq] at h
    subst h
    simp only [setAllocs]
    rw [slot_setAllocs_out rs _ (n + 1) (by omega), slot_set]
    simp at hl ⊢
    omega
  | r0 :: rs, H, n, j + 1, r, h, hl => by
    simp only [List.getElem?_cons_succ] at h
    simp only [setAllocs]
    have := slot_setAllocs_in rs (H.set n (.live r0)) (n + 1) h (by simp; omega)
    rw [show n + (j + 1) = n + 1 + j by omega]
    exact this

theorem comp_ren {f : Nat → Nat} {r r' : Row} (h : Comp r r') : Comp (renRow f r) (renRow f r') := by
  cases r <;> cases r' <;> simp_all [renRow, Comp]

theorem comp_self_ren (f : Nat → Nat) (r : Row) : Comp r (renRow f r) := by
  cases r <;> simp [renRow, Comp]

theorem mem_zip_fst {α β : Type} {l : List α} {l' : List β} (h : l.length = l'.length) : (l.zip l').map Prod.fst = l := List.map_fst_zip (by omega)

section
variable {P : Program} {b : Beg} {X : Ctx} {cap frz lent : List Nat} {pre allocs : List Row} {post : List (Option Row)} {nid : Nat}

/-- The heap when the call has come back. -/
def backH (X : Ctx) (cap frz : List Nat) (nid : Nat) (post : List (Option Row)) (allocs : List Row) : Heap :=
  setWrites (setAllocs X.H nid (allocs.map (renRow (ren cap nid)))) (cap.zip (post.map (Option.map (renRow (ren cap nid)))) ++ frz.map fun i => (i, none))

def backρ (X : Ctx) (cap : List Nat) (nid : Nat) (allocs : List Row) (ρ' : Nat → Option Loc) (id : Nat) : Option Loc :=
  if nid ≤ id ∧ id < nid + allocs.length then ρ' (cap.length + (id - nid)) else X.ρ id

def backS (X : Ctx) (cap frz soft : List Nat) (S' : Nat → Prop) (k : Nat) : Prop := softS X frz k ∨ (S' k ∧ (X.w.heap.size ≤ k ∨ (begOf X cap soft).B k))

structure Back (X : Ctx) (cap frz : List Nat) (nid : Nat) (post : List (Option Row)) (allocs : List Row) : Prop where
  out : ∀ id, id ∉ cap → id ∉ frz → (id < nid ∨ nid + allocs.length ≤ id) → slot (backH X cap frz nid post allocs) id = slot X.H id
  caps : ∀ k r, k < cap.length → post[k]? = some r → slot (backH X cap frz nid post allocs) (cap.getD k 0) = slotOf (r.map (renRow (ren cap nid)))
  frzs : ∀ id, id ∈ frz → slot (backH X cap frz nid post allocs) id = .dead
  new : ∀ j r, allocs[j]? = some r → slot (backH X cap frz nid post allocs) (nid + j) = .live (renRow (ren cap nid) r)

theorem back_slots (hpl : post.length = cap.length) (hnd : (cap ++ frz).Nodup) (hcap : ∀ i ∈ cap, hget X.H i ≠ none) (hfrz : ∀ i ∈ frz, hget X.H i ≠ none) (hf : Free X nid allocs.length) : Back X cap frz nid post allocs := by
  have hlt : ∀ i, hget X.H i ≠ none → i < X.H.length ∧ (i < nid ∨ nid + allocs.length ≤ i) := by
    intro i hi
    have hs : slot X.H i ≠ .free := by
      intro e
      unfold hget at hi
      rw [e] at hi
      exact hi rfl
    refine ⟨lt_of_slot hs, ?_⟩
    rcases Nat.lt_or_ge i nid with h | h
    · exact .inl h
    · rcases Nat.lt_or_ge i (nid + allocs.length) with h2 | h2
      · exact absurd (by rw [show i = nid + (i - nid) by omega]; exact (hf (i - nid) (by omega)).1) hs
      · exact .inr h2
  have hkeys : ((cap.zip (post.map (Option.map (renRow (ren cap nid)))) ++ frz.map fun i => (i, (none : Option Row))).map Prod.fst) = cap ++ frz := by
    rw [List.map_append, mem_zip_fst (by simp [hpl]), List.map_map]
    have : (Prod.fst ∘ fun i => (i, (none : Option Row))) = fun i : Nat => i := rfl
    rw [this, List.map_id']
  have hout : ∀ id, id ∉ cap → id ∉ frz → slot (backH X cap frz nid post allocs) id = slot (setAllocs X.H nid (allocs.map (renRow (ren cap nid)))) id := by
    intro id h1 h2
    refine slot_setWrites _ _ id fun p hp e => ?_
    have hm := List.mem_map_of_mem (f := Prod.fst) hp
    rw [hkeys, e] at hm
    rcases List.mem_append.1 hm with h | h
    · exact h1 h
    · exact h2 h
  refine ⟨?_, ?_, ?_, ?_⟩
  · intro id h1 h2 h3
    rw [hout id h1 h2]
    exact slot_setAllocs_out _ _ _ (by simpa using h3)
  · intro k r hk hr
    refine slot_setWrites_mem _ _ (by rw [hkeys]; exact hnd) (List.mem_append_left _ ?_) (by rw [setAllocs_length]; exact (hlt _ (hcap _ (getD_mem hk))).1)
    refine List.mem_of_getElem? (i := k) ?_
    rw [List.getElem?_zip_eq_some]
    rw [List.getD_eq_getElem?_getD, List.getElem?_eq_getElem hk]
    exact ⟨rfl, by simp [hr]⟩
  · intro id h
    exact slot_setWrites_mem _ _ (r := none) (by rw [hkeys]; exact hnd) (List.mem_append_right _ (List.mem_map_of_mem (f := fun i => (i, none)) h)) (by rw [setAllocs_length]; exact (hlt _ (hfrz _ h)).1)
  · intro j r hj
    have hjl : j < allocs.length := (List.getElem?_eq_some_iff.1 hj).1
    have hfree := hf j hjl
    have hno : ∀ i, hget X.H i ≠ none → i ≠ nid + j := by
      intro i hi e
      have := (hlt i hi).2
      omega
    rw [hout _ (fun h => hno _ (hcap _ h) rfl) (fun h => hno _ (hfrz _ h) rfl)]
    exact slot_setAllocs_in _ _ _ (by simp [hj]) hfree.2

theorem slot_post (post : List (Option Row)) (allocs : List Row) {k : Nat} {r : Option Row} (h : post[k]? = some r) : slot (post.map slotOf ++ allocs.map .live) k = slotOf r := by
  unfold slot
  have hk : k < post.length := (List.getElem?_eq_some_iff.1 h).1
  rw [List.getD_eq_getElem?_getD, List.getElem?_append_left (by simpa using hk), List.getElem?_map, h]
  rfl

theorem slot_new (post : List (Option Row)) (allocs : List Row) (j : Nat) : slot (post.map slotOf ++ allocs.map .live) (post.length + j) = match allocs[j]? with | some r => .live r | none => .free := by
  unfold slot
  rw [List.getD_eq_getElem?_getD, List.getElem?_append_right (by simp)]
  simp only [List.length_map, Nat.add_sub_cancel_left, List.getElem?_map]
  cases allocs[j]? <;> rfl

theorem mem_called (M : Mem b X) (hl : pre.length = cap.length) (hpl : post.length = cap.length) (hnd : (cap ++ frz).Nodup) (hcl : ∀ i ∈ cap, i ∉ lent)
    (hrows : ∀ k r, pre[k]? = some r → hget X.H (cap.getD k 0) = some (renRow (ren cap nid) r)) (hfrz : ∀ i ∈ frz, hget X.H i ≠ none)
    (hshape : ∀ (k : Nat) (r r' : Row), pre[k]? = some r → post[k]? = some (some r') → Comp r r')
    (hf : Free X nid allocs.length) (hn : b.n ≤ nid) {val : D} {v : Value} {ρ' : Nat → Option Loc} {S' : Nat → Prop} {w' : World}
    (hflat : lent = [] ∨ (flatD val = true ∧ (∀ r ∈ allocs, flatRow r = true) ∧ ∀ r, some r ∈ post → flatRow r = true))
    (M1 : Mem (begOf X cap (lent ++ frz)) ⟨ρ', post.map slotOf ++ allocs.map .live, S', w'⟩) (hv : RelD ⟨ρ', post.map slotOf ++ allocs.map .live, S', w'⟩ val v) :
    Mem b ⟨backρ X cap nid allocs ρ', backH X cap frz nid post allocs, backS X cap frz (lent ++ frz) S', w'⟩ ∧
      Le X ⟨backρ X cap nid allocs ρ', backH X cap frz nid post allocs, backS X cap frz (lent ++ frz) S', w'⟩ ∧
      RelD ⟨backρ X cap nid allocs ρ', backH X cap frz nid post allocs, backS X cap frz (lent ++ frz) S', w'⟩ (renD (ren cap nid) val) v := by
  generalize hX1 : (⟨ρ', post.map slotOf ++ allocs.map .live, S', w'⟩ : Ctx) = X1 at M1 hv
  generalize hX2 : (⟨backρ X cap nid allocs ρ', backH X cap frz nid post allocs, backS X cap frz (lent ++ frz) S', w'⟩ : Ctx) = X2
  have e1H : X1.H = post.map slotOf ++ allocs.map .live := by rw [← hX1]
  have e1ρ : X1.ρ = ρ' := by rw [← hX1]
  have e1S : X1.S = S' := by rw [← hX1]
  have e1w : X1.w = w' := by rw [← hX1]
  have e2H : X2.H = backH X cap frz nid post allocs := by rw [← hX2]
  have e2ρ : X2.ρ = backρ X cap nid allocs ρ' := by rw [← hX2]
  have e2S : X2.S = backS X cap frz (lent ++ frz) S' := by rw [← hX2]
  have e2w : X2.w = w' := by rw [← hX2]
  clear hX1 hX2
  have hcapL : ∀ k, k < cap.length → hget X.H (cap.getD k 0) ≠ none := by
    intro k hk
    have hk' : k < pre.length := by omega
    rw [hrows k pre[k] (List.getElem?_eq_getElem hk')]
    simp
  have hcapM : ∀ i ∈ cap, hget X.H i ≠ none := by
    intro i hi
    obtain ⟨k, hk, rfl⟩ := List.getElem_of_mem hi
    have := hcapL k hk
    rwa [List.getD_eq_getElem?_getD, List.getElem?_eq_getElem hk] at this
  have B := back_slots (post := post) hpl hnd hcapM hfrz hf
  have hnodup := List.nodup_append.1 hnd
  have hrange : ∀ i, hget X.H i ≠ none → ¬ (nid ≤ i ∧ i < nid + allocs.length) := by
    intro i hi hc
    have := (hf (i - nid) (by omega)).1
    rw [show nid + (i - nid) = i by omega] at this
    unfold hget at hi
    rw [this] at hi
    exact hi rfl
  have hρold : ∀ i, hget X.H i ≠ none → X2.ρ i = X.ρ i := by
    intro i hi
    rw [e2ρ]
    unfold backρ
    rw [if_neg (hrange i hi)]
  have hρnew : ∀ j, j < allocs.length → X2.ρ (nid + j) = X1.ρ (cap.length + j) := by
    intro j hj
    rw [e2ρ, e1ρ]
    unfold backρ
    rw [if_pos (by omega)]
    congr 1
    omega
  -- what there is
  have classes : ∀ id r, hget X2.H id = some r →
      (hget X.H id = some r ∧ id ∉ cap ∧ id ∉ frz) ∨ (∃ k r0, k < cap.length ∧ id = cap.getD k 0 ∧ post[k]? = some (some r0) ∧ r = renRow (ren cap nid) r0) ∨
      (∃ j r0, allocs[j]? = some r0 ∧ id = nid + j ∧ r = renRow (ren cap nid) r0) := by
    intro id r hr
    rw [e2H] at hr
    have hs := hget_live.1 hr
    by_cases h1 : id ∈ cap
    · obtain ⟨k, hk, he⟩ := List.getElem_of_mem h1
      have he' : id = cap.getD k 0 := by rw [List.getD_eq_getElem?_getD, List.getElem?_eq_getElem hk]; exact he.symm
      have hk' : k < post.length := by omega
      have := B.caps k post[k] hk (List.getElem?_eq_getElem hk')
      rw [← he', hs] at this
      cases hp : post[k] with
      | none => rw [hp] at this; simp [slotOf] at this
      | some r0 =>
        rw [hp] at this
        simp only [Option.map_some, slotOf, Slot.live.injEq] at this
        exact .inr (.inl ⟨k, r0, hk, he', by rw [List.getElem?_eq_getElem hk', hp], this⟩)
    · by_cases h2 : id ∈ frz
      · have := B.frzs id h2
        rw [hs] at this
        simp at this
      · by_cases h3 : id < nid ∨ nid + allocs.length ≤ id
        · have := B.out id h1 h2 h3
          rw [hs] at this
          exact .inl ⟨hget_live.2 this.symm, h1, h2⟩
        · have hj : id - nid < allocs.length := by omega
          have := B.new (id - nid) allocs[id - nid] (List.getElem?_eq_getElem hj)
          rw [show nid + (id - nid) = id by omega, hs] at this
          simp only [Slot.live.injEq] at this
          exact .inr (.inr ⟨id - nid, _, List.getElem?_eq_getElem hj, by omega, this⟩)
  have h1cap : ∀ k r0, post[k]? = some (some r0) → hget X1.H k = some r0 := by
    intro k r0 h
    rw [hget_live, e1H]
    exact slot_post post allocs h
  have h1new : ∀ j r0, allocs[j]? = some r0 → hget X1.H (cap.length + j) = some r0 := by
    intro j r0 h
    rw [hget_live, e1H, ← hpl, slot_new, h]
  have h1ρ : ∀ k r0, k < cap.length → post[k]? = some (some r0) → X1.ρ k = X.ρ (cap.getD k 0) := by
    intro k r0 hk h
    exact M1.old k hk (by rw [h1cap k r0 h]; simp)
  -- blocks of the rows that were handed over
  have hBiff : ∀ k, (begOf X cap (lent ++ frz)).B k → ∃ i l, i ∈ cap ∧ hget X.H i ≠ none ∧ X.ρ i = some l ∧ l.b = k := by
    rintro k ⟨id, l, hid, hρ, hb⟩
    exact ⟨cap.getD id 0, l, getD_mem hid, hcapL id hid, hρ, hb⟩
  have hnotB : ∀ i l, hget X.H i ≠ none → i ∉ cap → X.ρ i = some l → ¬ (begOf X cap (lent ++ frz)).B l.b := by
    intro i l hi hic hρ hB
    obtain ⟨i', l', h1, h2, h3, h4⟩ := hBiff _ hB
    have := M.inj i i' l l' hi h2 hρ h3 h4.symm
    exact hic (this ▸ h1)
  have hnewblk : ∀ j r0 p, allocs[j]? = some r0 → X1.ρ (cap.length + j) = some p → X.w.heap.size ≤ p.b ∨ (begOf X cap (lent ++ frz)).B p.b := by
    intro j r0 p hj hp
    exact M1.fresh _ p (by rw [h1new j r0 hj]; simp) hp
  have hkeep : ∀ k, k < X.w.heap.size → ¬ (begOf X cap (lent ++ frz)).B k → X2.w.heap[k]? = X.w.heap[k]? := by
    intro k hk hB
    rw [e2w, ← e1w]
    exact M1.keep k hk hB
  have hsz : X.w.heap.size ≤ X2.w.heap.size := by
    rw [e2w, ← e1w]
    exact M1.size
  have hstX : ∀ k, X.S k → X2.S k ∧ X2.w.heap[k]? = X.w.heap[k]? := by
    intro k hk
    refine ⟨by rw [e2S]; exact .inl (.inl hk), hkeep k (M.stab k hk) ?_⟩
    intro hB
    obtain ⟨i', l', h1, h2, h3, h4⟩ := hBiff _ hB
    exact M.sep i' l' h2 h3 (h4 ▸ hk)
  have hstab1 : lent = [] → ∀ k, X1.S k → X2.S k ∧ X2.w.heap[k]? = X1.w.heap[k]? := by
    intro h k hk
    refine ⟨?_, by rw [e2w, e1w]⟩
    rw [e2S]
    rcases M1.sup k hk with h1 | h1
    · refine .inl ?_
      rw [h] at h1
      exact h1
    · exact .inr ⟨by rw [← e1S]; exact hk, h1⟩
  -- the pairs
  have hpair : ∀ id, Pair X1 X2 id (ren cap nid id) := by
    intro id
    by_cases hid : id < cap.length
    · rw [ren_cap hid]
      have hid' : id < post.length := by omega
      have h1 : slot X1.H id = slotOf post[id] := by rw [e1H]; exact slot_post post allocs (List.getElem?_eq_getElem hid')
      have h2 : slot X2.H (cap.getD id 0) = slotOf (post[id].map (renRow (ren cap nid))) := by rw [e2H]; exact B.caps id _ hid (List.getElem?_eq_getElem hid')
      unfold Pair
      rw [h1, h2]
      cases hp : post[id] with
      | none => simp [slotOf]
      | some r0 =>
        simp only [Option.map_some, slotOf]
        refine ⟨comp_self_ren _ _, ?_⟩
        rw [hρold _ (hcapL id hid)]
        exact (h1ρ id r0 hid (by rw [List.getElem?_eq_getElem hid', hp])).symm
    · obtain ⟨j, rfl⟩ : ∃ j, id = cap.length + j := ⟨id - cap.length, by omega⟩
      have hr : ren cap nid (cap.length + j) = nid + j := by
        unfold ren
        rw [if_neg hid]
        omega
      rw [hr]
      have h1 : slot X1.H (cap.length + j) = match allocs[j]? with | some r => .live r | none => .free := by rw [e1H, ← hpl]; exact slot_new post allocs j
      unfold Pair
      rw [h1]
      cases hj : allocs[j]? with
      | none => trivial
      | some r0 =>
        have h2 : slot X2.H (nid + j) = .live (renRow (ren cap nid) r0) := by rw [e2H]; exact B.new j r0 hj
        rw [h2]
        exact ⟨comp_self_ren _ _, hρnew j (List.getElem?_eq_some_iff.1 hj).1⟩
  have hpair' : ∀ id, Pair X1 X2 ((fun i => i) id) (ren cap nid id) := hpair
  have hrow1 : ∀ (r : Row) (p : Option Loc), (lent = [] ∨ flatRow r = true) → RelRow X1 r p → RelRow X2 (renRow (ren cap nid) r) p := by
    intro r p hfl hr
    cases p with
    | none => cases r <;> exact hr
    | some l =>
      obtain ⟨cs, ty, h1, h2, h3⟩ := hr
      refine ⟨cs, ty, by rw [e2w, ← e1w]; exact h1, h2, ?_⟩
      cases r with
      | box bt ds =>
        obtain ⟨e, us, e1, h4, h5⟩ := h3
        refine ⟨e, us, e1, relDs_pair hpair' ds us ?_ (by rw [renDs_id]; exact h4), h5⟩
        exact hfl.imp hstab1 (fun h => by simpa [flatRow] using h)
      | data e t xs =>
        obtain ⟨e1, us, h4, h5, h6⟩ := h3
        refine ⟨e1, us, ?_, h5, h6⟩
        rcases hfl with hfl | hfl
        · exact Reps_mono (RelE_mono (hstab1 hfl) t) xs us h4
        · exact Reps_mono (fun x us => RelE_flat t x us (by simpa [flatRow] using hfl)) xs us h4
  have hle : Le X X2 := by
    refine ⟨hstX, ?_⟩
    intro id
    unfold Pair
    cases hs : slot X.H id with
    | free => trivial
    | dead =>
      have h1 : id ∉ cap := fun h => hcapM id h (by unfold hget; rw [hs])
      have h2 : id ∉ frz := fun h => hfrz id h (by unfold hget; rw [hs])
      have h3 : id < nid ∨ nid + allocs.length ≤ id := by
        rcases Nat.lt_or_ge id nid with h | h
        · exact .inl h
        · rcases Nat.lt_or_ge id (nid + allocs.length) with h2 | h2
          · have := (hf (id - nid) (by omega)).1
            rw [show nid + (id - nid) = id by omega, hs] at this
            cases this
          · exact .inr h2
      have := B.out id h1 h2 h3
      rw [e2H, this, hs]
      trivial
    | live r =>
      have hlv : hget X.H id ≠ none := by rw [hget_live.2 hs]; simp
      by_cases h1 : id ∈ cap
      · obtain ⟨k, hk, he⟩ := List.getElem_of_mem h1
        have he' : id = cap.getD k 0 := by rw [List.getD_eq_getElem?_getD, List.getElem?_eq_getElem hk]; exact he.symm
        have hk' : k < post.length := by omega
        have hk2 : k < pre.length := by omega
        have hb := B.caps k post[k] hk (List.getElem?_eq_getElem hk')
        have hpre := hrows k pre[k] (List.getElem?_eq_getElem hk2)
        rw [← he'] at hb hpre
        rw [hget_live, hs] at hpre
        rw [e2H, hb]
        cases hp : post[k] with
        | none => simp [slotOf]
        | some r0 =>
          simp only [Option.map_some, slotOf]
          simp only [Slot.live.injEq] at hpre
          rw [hpre]
          exact ⟨comp_ren (hshape k _ r0 (List.getElem?_eq_getElem hk2) (by rw [List.getElem?_eq_getElem hk', hp])), hρold id hlv⟩
      · by_cases h2 : id ∈ frz
        · rw [e2H, B.frzs id h2]
          trivial
        · have h3 : id < nid ∨ nid + allocs.length ≤ id := by
            have := hrange id hlv
            omega
          rw [e2H, B.out id h1 h2 h3, hs]
          exact ⟨Comp.refl r, hρold id hlv⟩
  refine ⟨?_, hle, ?_⟩
  rotate_left
  · refine relD_pair hpair' val v ?_ (by rw [renD_id]; exact hv)
    exact hflat.imp hstab1 (fun h => h.1)
  have hnewX : ∀ j r0 p, allocs[j]? = some r0 → X2.ρ (nid + j) = some p → X1.ρ (cap.length + j) = some p := by
    intro j r0 p hj hp
    rw [← hρnew j (List.getElem?_eq_some_iff.1 hj).1]
    exact hp
  refine ⟨?_, ?_, ?_, Nat.le_trans M.size hsz, ?_, ?_, ?_, ?_, ?_, ?_, ?_, ?_, ?_⟩
  · rw [e2w, ← e1w, M1.os]; exact M.os
  · rw [e2w, ← e1w, M1.tape]; exact M.tape
  · rw [e2w, ← e1w, M1.output]; exact M.output
  · -- inj
    have key : ∀ i j p q ri rj, hget X2.H i = some ri → hget X2.H j = some rj → X2.ρ i = some p → X2.ρ j = some q → p.b = q.b → hget X.H i ≠ none → hget X.H j ≠ none → i = j := by
      intro i j p q ri rj _ _ hp hq hpq hi hj
      rw [hρold i hi] at hp
      rw [hρold j hj] at hq
      exact M.inj i j p q hi hj hp hq hpq
    have oldnew : ∀ i p j r0 q, hget X.H i ≠ none → (i ∈ cap → ∃ k r1, k < cap.length ∧ i = cap.getD k 0 ∧ post[k]? = some (some r1)) → X.ρ i = some p → allocs[j]? = some r0 → X2.ρ (nid + j) = some q → p.b ≠ q.b := by
      intro i p j r0 q hi hic hp hj hq e
      have hq1 := hnewX j r0 q hj hq
      by_cases hc : i ∈ cap
      · obtain ⟨k, r1, hk, he, hpk⟩ := hic hc
        have hp1 : X1.ρ k = some p := by rw [h1ρ k r1 hk hpk, ← he]; exact hp
        have := M1.inj k (cap.length + j) p q (by rw [h1cap k r1 hpk]; simp) (by rw [h1new j r0 hj]; simp) hp1 hq1 e
        omega
      · rcases hnewblk j r0 q hj hq1 with h | h
        · have := live_lt M hi hp
          omega
        · exact hnotB i p hi hc hp (e ▸ h)
    have toOld : ∀ i ri, hget X2.H i = some ri → (hget X.H i ≠ none ∧ (i ∈ cap → ∃ k r1, k < cap.length ∧ i = cap.getD k 0 ∧ post[k]? = some (some r1))) ∨ ∃ j r0, allocs[j]? = some r0 ∧ i = nid + j := by
      intro i ri hi
      rcases classes i ri hi with ⟨h, h1, _⟩ | ⟨k, r0, h1, h2, h3, _⟩ | ⟨j, r0, h1, h2, _⟩
      · exact .inl ⟨by rw [h]; simp, fun hc => absurd hc h1⟩
      · exact .inl ⟨by rw [h2]; exact hcapL k h1, fun _ => ⟨k, r0, h1, h2, h3⟩⟩
      · exact .inr ⟨j, r0, h1, h2⟩
    intro i j p q hi hj hp hq hpq
    cases hri : hget X2.H i with
    | none => exact absurd hri hi
    | some ri =>
    cases hrj : hget X2.H j with
    | none => exact absurd hrj hj
    | some rj =>
    rcases toOld i ri hri with ⟨h1, h2⟩ | ⟨ji, r0, h1, h2⟩
    · rcases toOld j rj hrj with ⟨h3, h4⟩ | ⟨jj, r1, h3, h4⟩
      · exact key i j p q ri rj hri hrj hp hq hpq h1 h3
      · rw [hρold i h1] at hp
        subst h4
        exact absurd hpq (oldnew i p jj r1 q h1 h2 hp h3 hq)
    · rcases toOld j rj hrj with ⟨h3, h4⟩ | ⟨jj, r1, h3, h4⟩
      · rw [hρold j h3] at hq
        subst h2
        exact absurd hpq.symm (oldnew j q ji r0 p h3 h4 hq h1 hp)
      · subst h2
        subst h4
        have a1 := hnewX ji r0 p h1 hp
        have a2 := hnewX jj r1 q h3 hq
        have := M1.inj _ _ p q (by rw [h1new ji r0 h1]; simp) (by rw [h1new jj r1 h3]; simp) a1 a2 hpq
        omega
  · -- rows
    intro id r hr
    rcases classes id r hr with ⟨h, h1, h2⟩ | ⟨k, r0, h1, h2, h3, h4⟩ | ⟨j, r0, h1, h2, h3⟩
    · rw [hρold id (by rw [h]; simp)]
      refine relRow_le hle ?_ (M.rows id r h)
      intro l hl'
      exact hkeep _ (live_lt M (by rw [h]; simp) hl') (hnotB id l (by rw [h]; simp) h1 hl')
    · subst h2
      subst h4
      rw [hρold _ (hcapL k h1), ← h1ρ k r0 h1 h3]
      exact hrow1 r0 _ (hflat.imp id fun h => h.2.2 r0 (List.mem_of_getElem? h3)) (M1.rows k r0 (h1cap k r0 h3))
    · subst h2
      subst h3
      rw [hρnew j (List.getElem?_eq_some_iff.1 h1).1]
      exact hrow1 r0 _ (hflat.imp id fun h => h.2.1 r0 (List.mem_of_getElem? h1)) (M1.rows _ r0 (h1new j r0 h1))
  · -- sep
    intro id p hid hp hS
    rw [e2S] at hS
    cases hr : hget X2.H id with
    | none => exact hid hr
    | some r =>
    rcases classes id r hr with ⟨h, h1, h2⟩ | ⟨k, r0, h1, h2, h3, h4⟩ | ⟨j, r0, h1, h2, h3⟩
    · have hlv : hget X.H id ≠ none := by rw [h]; simp
      rw [hρold id hlv] at hp
      rcases hS with (hS | ⟨i, hi, hi2, l, hl1, hl2⟩) | ⟨_, hS | hS⟩
      · exact M.sep id p hlv hp hS
      · have := M.inj _ _ _ _ hlv hi2 hp hl1 hl2.symm
        exact h2 (this ▸ hi)
      · have := live_lt M hlv hp
        omega
      · exact hnotB id p hlv h1 hp hS
    · have hlv := hcapL k h1
      subst h2
      have hp0 := hp
      rw [hρold _ hlv] at hp
      rcases hS with (hS | ⟨i, hi, hi2, l, hl1, hl2⟩) | ⟨hS, _⟩
      · exact M.sep _ p hlv hp hS
      · have := M.inj _ _ _ _ hlv hi2 hp hl1 hl2.symm
        exact hnodup.2.2 _ (getD_mem h1) _ hi this
      · exact M1.sep k p (by rw [h1cap k r0 h3]; simp) (by rw [h1ρ k r0 h1 h3]; exact hp) (by rw [e1S]; exact hS)
    · subst h2
      have hp1 := hnewX j r0 p h1 hp
      rcases hS with (hS | ⟨i, hi, hi2, l, hl1, hl2⟩) | ⟨hS, _⟩
      · rcases hnewblk j r0 p h1 hp1 with hb | hb
        · have := M.stab _ hS
          omega
        · obtain ⟨i', l', g1, g2, g3, g4⟩ := hBiff _ hb
          exact M.sep i' l' g2 g3 (g4 ▸ hS)
      · rcases hnewblk j r0 p h1 hp1 with hb | hb
        · have := live_lt M hi2 hl1
          omega
        · obtain ⟨i', l', g1, g2, g3, g4⟩ := hBiff _ hb
          have := M.inj i' i l' l g2 hi2 g3 hl1 (by rw [g4, hl2])
          exact hnodup.2.2 _ g1 _ hi this
      · exact M1.sep _ p (by rw [h1new j r0 h1]; simp) hp1 (by rw [e1S]; exact hS)
  · -- stab
    intro k hk
    rw [e2S] at hk
    rcases hk with (hk | ⟨i, hi, hi2, l, hl1, hl2⟩) | ⟨hk, _⟩
    · exact Nat.lt_of_lt_of_le (M.stab k hk) hsz
    · rw [← hl2]
      exact Nat.lt_of_lt_of_le (live_lt M hi2 hl1) hsz
    · rw [e2w, ← e1w]
      exact M1.stab k (by rw [e1S]; exact hk)
  · -- keep
    intro k hk hB
    rw [← M.keep k hk hB]
    refine hkeep k (Nat.lt_of_lt_of_le hk M.size) ?_
    intro hb
    obtain ⟨i', l', g1, g2, g3, g4⟩ := hBiff _ hb
    rcases M.fresh i' l' g2 g3 with h | h
    · omega
    · exact hB (g4 ▸ h)
  · -- fresh
    intro id p hid hp
    cases hr : hget X2.H id with
    | none => exact absurd hr hid
    | some r =>
    rcases classes id r hr with ⟨h, h1, h2⟩ | ⟨k, r0, h1, h2, h3, h4⟩ | ⟨j, r0, h1, h2, h3⟩
    · rw [hρold id (by rw [h]; simp)] at hp
      exact M.fresh id p (by rw [h]; simp) hp
    · subst h2
      rw [hρold _ (hcapL k h1)] at hp
      exact M.fresh _ p (hcapL k h1) hp
    · subst h2
      rcases hnewblk j r0 p h1 (hnewX j r0 p h1 hp) with hb | hb
      · exact .inl (Nat.le_trans M.size hb)
      · obtain ⟨i', l', g1, g2, g3, g4⟩ := hBiff _ hb
        rw [← g4]
        exact M.fresh i' l' g2 g3
  · -- old
    intro id hid hlv
    cases hr : hget X2.H id with
    | none => exact absurd hr hlv
    | some r =>
    rcases classes id r hr with ⟨h, h1, h2⟩ | ⟨k, r0, h1, h2, h3, h4⟩ | ⟨j, r0, h1, h2, h3⟩
    · rw [hρold id (by rw [h]; simp)]
      exact M.old id hid (by rw [h]; simp)
    · subst h2
      rw [hρold _ (hcapL k h1)]
      exact M.old _ hid (hcapL k h1)
    · omega
  · intro k hk
    rw [e2S]
    exact .inl (.inl (M.sub k hk))
  · intro k hk
    rw [e2S] at hk
    rcases hk with (hk | ⟨i, hi, hi2, l, hl1, hl2⟩) | ⟨_, hk | hk⟩
    · exact M.sup k hk
    · rw [← hl2]
      exact .inr (M.fresh i l hi2 hl1)
    · exact .inr (.inl (Nat.le_trans M.size hk))
    · obtain ⟨i', l', g1, g2, g3, g4⟩ := hBiff _ hk
      rw [← g4]
      exact .inr (M.fresh i' l' g2 g3)

end
end Go.Proofs.YtnakmganodkliaaAm
