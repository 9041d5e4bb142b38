/- States made small again: what is not needed is forgotten, the rows are counted anew; a call's result. -/
import Derived.Test.YtnakmganodkliaaAmM
set_option linter.unusedVariables false
set_option linter.unusedSimpArgs false
namespace Go.Proofs.YtnakmganodkliaaAm
open Go

mutual
def refsD : D → List Nat
  | .own id _ _ _ | .ptr id _ _ | .bsl id _ _ => [id]
  | .rptr cs | .agg cs | .fn _ cs | .tup cs => refsDs cs
  | _ => []
def refsDs : List D → List Nat
  | [] => []
  | d :: ds => refsD d ++ refsDs ds
end
def refsRow : Row → List Nat
  | .box _ cs => refsDs cs
  | _ => []

def addNew : List Nat → List Nat → List Nat
  | l, [] => l
  | l, a :: as => if l.contains a then addNew l as else addNew (l ++ [a]) as

def refsOf (H : Heap) : List Nat → List Nat
  | [] => []
  | id :: ids => (match hget H id with | some r => refsRow r | none => []) ++ refsOf H ids

/-- The rows that are needed: the first n, then those that are named. -/
def gcIds (n : Nat) (H : Heap) (ds : List D) : List Nat :=
  let l := addNew (List.range n) (refsDs ds)
  let l := addNew l (refsOf H l)
  addNew l (refsOf H l)

def pos : List Nat → Nat → Nat
  | [], _ => 0
  | a :: l, id => if a = id then 0 else pos l id + 1

def inB (ids : List Nat) (l : List Nat) : Bool := l.all fun i => ids.contains i

def renSlot (f : Nat → Nat) : Slot → Slot
  | .live r => .live (renRow f r)
  | s => s

def slotIn (ids : List Nat) : Slot → Bool
  | .live r => inB ids (refsRow r)
  | _ => true

/-- Forget the temporaries that aren't kept, and all rows that nothing names. -/
def keepT (keep : List Nat) : Nat → List D → List D
  | _, [] => []
  | i, d :: ds => (if keep.contains i then d else .top) :: keepT keep (i + 1) ds

def packH (ids : List Nat) (H : Heap) : Heap := ids.map fun id => renSlot (pos ids) (slot H id)

def packOk (n : Nat) (ids : List Nat) (H : Heap) (ds : List D) : Bool :=
  nodupB ids && (ids.take n == List.range n) && decide (n ≤ ids.length) && inB ids (refsDs ds) && ids.all (fun id => slotIn ids (slot H id))

def normS (n : Nat) (keep : List Nat) (s : St) : Option St :=
  let ts := keepT keep 0 s.tmps
  let ids := gcIds n s.heap ts
  if packOk n ids s.heap ts then some ⟨renDs (pos ids) ts, packH ids s.heap⟩ else none

theorem pos_get : ∀ {ids : List Nat} {id : Nat}, id ∈ ids → pos ids id < ids.length ∧ ids.getD (pos ids id) 0 = id
  | [], id, h => by simp at h
  | a :: l, id, h => by
    simp only [pos]
    split
    · rename_i e
      simp [e]
    · rename_i e
      rcases List.mem_cons.1 h with h | h
      · exact absurd h.symm e
      · obtain ⟨h1, h2⟩ := pos_get h
        simp only [List.length_cons, Nat.add_lt_add_iff_right, h1, List.getD_cons_succ, h2, and_self]

mutual
theorem renD_back {ids : List Nat} {f : Nat → Nat} (hf : ∀ k, k < ids.length → f k = ids.getD k 0) : ∀ d : D, inB ids (refsD d) = true → renD f (renD (pos ids) d) = d
  | .v _, _ | .sl _ _ _ _, _ | .arr _ _, _ | .top, _ => rfl
  | .own id off len cap, h => by
    have hm : id ∈ ids := by simpa [inB, refsD] using h
    obtain ⟨h1, h2⟩ := pos_get hm
    simp only [renD, hf _ h1, h2]
  | .ptr id i off, h => by
    have hm : id ∈ ids := by simpa [inB, refsD] using h
    obtain ⟨h1, h2⟩ := pos_get hm
    simp only [renD, hf _ h1, h2]
  | .bsl id len sz, h => by
    have hm : id ∈ ids := by simpa [inB, refsD] using h
    obtain ⟨h1, h2⟩ := pos_get hm
    simp only [renD, hf _ h1, h2]
  | .rptr cs, h => by simp only [renD, renDs_back hf cs (by simpa only [refsD] using h)]
  | .agg cs, h => by simp only [renD, renDs_back hf cs (by simpa only [refsD] using h)]
  | .fn _ cs, h => by simp only [renD, renDs_back hf cs (by simpa only [refsD] using h)]
  | .tup cs, h => by simp only [renD, renDs_back hf cs (by simpa only [refsD] using h)]
theorem renDs_back {ids : List Nat} {f : Nat → Nat} (hf : ∀ k, k < ids.length → f k = ids.getD k 0) : ∀ ds : List D, inB ids (refsDs ds) = true → renDs f (renDs (pos ids) ds) = ds
  | [], _ => rfl
  | d :: ds, h => by
    simp only [refsDs, inB, List.all_append, Bool.and_eq_true] at h
    simp only [renDs, renD_back hf d h.1, renDs_back hf ds h.2]
end

theorem keepT_rel {X : Ctx} (keep : List Nat) : ∀ (ds : List D) (i : Nat) {us : List Value}, RelDs X ds us → RelDs X (keepT keep i ds) us
  | [], _, _, h => h
  | d :: ds, i, us, h => by
    simp only [RelDs] at h
    obtain ⟨u, us', rfl, h1, h2⟩ := h
    simp only [keepT, RelDs]
    refine ⟨u, us', rfl, ?_, keepT_rel keep ds _ h2⟩
    split
    · exact h1
    · simp only [RelD]

theorem slot_pack (ids : List Nat) (H : Heap) {k : Nat} (hk : k < ids.length) : slot (packH ids H) k = renSlot (pos ids) (slot H (ids.getD k 0)) := by
  unfold packH
  rw [slot, List.getD_eq_getElem?_getD, List.getElem?_map, List.getElem?_eq_getElem hk]
  simp [List.getD_eq_getElem?_getD, List.getElem?_eq_getElem hk]

section
variable {b : Beg} {X : Ctx}

def packX (X : Ctx) (ids : List Nat) : Ctx := ⟨fun k => X.ρ (ids.getD k 0), packH ids X.H, X.S, X.w⟩

theorem pack_pair (ids : List Nat) : ∀ k, Pair X (packX X ids) (if k < ids.length then ids.getD k 0 else X.H.length) k := by
  intro k
  by_cases hk : k < ids.length
  · rw [if_pos hk]
    unfold Pair
    rw [show slot (packX X ids).H k = _ from slot_pack ids X.H hk]
    cases slot X.H (ids.getD k 0) with
    | free => trivial
    | dead => trivial
    | live r =>
      simp only [renSlot]
      exact ⟨comp_self_ren _ _, rfl⟩
  · rw [if_neg hk]
    have : slot X.H X.H.length = .free := by simp [slot]
    unfold Pair
    rw [this]
    trivial

theorem pack_rel (ids : List Nat) {d : D} (hd : inB ids (refsD d) = true) {u : Value} (h : RelD X d u) : RelD (packX X ids) (renD (pos ids) d) u := by
  have := relD_pair (h := fun i => i) (pack_pair (X := X) ids) (renD (pos ids) d) u (.inl fun k hk => ⟨hk, rfl⟩) (by
    rw [renD_back (f := fun k => if k < ids.length then ids.getD k 0 else X.H.length) (fun k hk => if_pos hk) d hd]
    exact h)
  rwa [renD_id] at this

theorem pack_rels (ids : List Nat) {ds : List D} (hd : inB ids (refsDs ds) = true) {us : List Value} (h : RelDs X ds us) : RelDs (packX X ids) (renDs (pos ids) ds) us := by
  have := relDs_pair (h := fun i => i) (pack_pair (X := X) ids) (renDs (pos ids) ds) us (.inl fun k hk => ⟨hk, rfl⟩) (by
    rw [renDs_back (f := fun k => if k < ids.length then ids.getD k 0 else X.H.length) (fun k hk => if_pos hk) ds hd]
    exact h)
  rwa [renDs_id] at this

theorem pack_get (ids : List Nat) {k : Nat} {r : Row} (h : hget (packH ids X.H) k = some r) : k < ids.length ∧ ∃ r0, hget X.H (ids.getD k 0) = some r0 ∧ r = renRow (pos ids) r0 := by
  have hs := hget_live.1 h
  have hk : k < ids.length := by
    have := lt_of_slot (by rw [hs]; simp : slot (packH ids X.H) k ≠ .free)
    simpa [packH] using this
  refine ⟨hk, ?_⟩
  rw [slot_pack ids X.H hk] at hs
  cases hr : slot X.H (ids.getD k 0) with
  | free => rw [hr] at hs; cases hs
  | dead => rw [hr] at hs; cases hs
  | live r0 =>
    rw [hr] at hs
    simp only [renSlot, Slot.live.injEq] at hs
    exact ⟨r0, hget_live.2 hr, hs.symm⟩

theorem mem_pack (M : Mem b X) {n : Nat} (hn : b.n = n) {ids : List Nat} {ds : List D} (h : packOk n ids X.H ds = true) : Mem b (packX X ids) := by
  unfold packOk at h
  simp only [Bool.and_eq_true, decide_eq_true_eq, beq_iff_eq] at h
  obtain ⟨⟨⟨⟨h1, h2⟩, h3⟩, h4⟩, h5⟩ := h
  have hnd := nodupB_iff.1 h1
  have hg : ∀ {k}, hget (packX X ids).H k ≠ none → k < ids.length ∧ hget X.H (ids.getD k 0) ≠ none := by
    intro k hk
    cases hr : hget (packX X ids).H k with
    | none => exact absurd hr hk
    | some r =>
      obtain ⟨g1, r0, g2, _⟩ := pack_get ids hr
      exact ⟨g1, by rw [g2]; simp⟩
  refine ⟨M.os, M.tape, M.output, M.size, ?_, ?_, ?_, M.stab, M.keep, ?_, ?_, M.sub, M.sup⟩
  · intro i j p q hi hj hp hq hpq
    exact getD_inj hnd (hg hi).1 (hg hj).1 (M.inj _ _ p q (hg hi).2 (hg hj).2 hp hq hpq)
  · intro id r hr
    obtain ⟨g1, r0, g2, rfl⟩ := pack_get ids hr
    have hrow := M.rows _ _ g2
    have hin : inB ids (refsRow r0) = true := by
      have := List.all_eq_true.1 h5 _ (getD_mem g1)
      rw [hget_live.1 g2] at this
      exact this
    show RelRow (packX X ids) _ (X.ρ (ids.getD id 0))
    cases hρ : X.ρ (ids.getD id 0) with
    | none =>
      rw [hρ] at hrow
      cases r0 <;> exact hrow
    | some l =>
      rw [hρ] at hrow
      obtain ⟨cs, ty, e1, e2, e3⟩ := hrow
      refine ⟨cs, ty, e1, e2, ?_⟩
      cases r0 with
      | box bt dd =>
        obtain ⟨e4, us, e5, e6, e7⟩ := e3
        exact ⟨e4, us, e5, pack_rels ids (by simpa [refsRow] using hin) e6, e7⟩
      | data e t xs => exact e3
  · intro id p hid hp
    exact M.sep _ p (hg hid).2 hp
  · intro id p hid hp
    exact M.fresh _ p (hg hid).2 hp
  · intro id hid hlv
    have hid' : id < n := by omega
    have hk : ids.getD id 0 = id := by
      have h6 : (ids.take n)[id]? = some id := by rw [h2, List.getElem?_range hid']
      rw [List.getElem?_take, if_pos hid'] at h6
      rw [List.getD_eq_getElem?_getD, h6]
      rfl
    show X.ρ (ids.getD id 0) = b.ρ id
    rw [hk]
    have := (hg hlv).2
    rw [hk] at this
    exact M.old id hid this

theorem norm_rel {n : Nat} {keep : List Nat} {s s' : St} {a : Act} (R : Rel b X s a) (hn : b.n = n) (h : normS n keep s = some s') : ∃ X', X'.w = X.w ∧ Rel b X' s' a := by
  unfold normS at h
  simp only at h
  split at h
  · rename_i hk
    simp only [Option.some.injEq] at h
    subst h
    have hk' : packOk n (gcIds n s.heap (keepT keep 0 s.tmps)) X.H (keepT keep 0 s.tmps) = true := by
      rw [R.heap]
      exact hk
    refine ⟨packX X (gcIds n s.heap (keepT keep 0 s.tmps)), rfl, mem_pack R.mem hn hk', ?_, ?_, ?_, R.defers⟩
    · refine pack_rels _ ?_ (keepT_rel keep _ 0 R.tmps)
      unfold packOk at hk
      simp only [Bool.and_eq_true] at hk
      exact hk.1.2
    · show packH _ X.H = _
      rw [R.heap]
    · unfold packOk at hk
      simp only [Bool.and_eq_true, decide_eq_true_eq] at hk
      show b.n ≤ (packH _ _).length
      rw [hn]
      simpa [packH] using hk.1.1.2
  · cases h

end

/-- A call's results, each. -/
def resD (P : Program) (H : Heap) (tmps : List D) : ResultVar → Option D
  | .tmp t => some (tmps.getD t .top)
  | .cell a t => match sizeB P t with
    | some s => match tmps.getD a .top with
      | .ptr id _ off => match hget H id with
        | some (.box _ cs) => if off + s ≤ cs.length then valD P t ((cs.drop off).take s) else none
        | _ => none
      | _ => none
    | none => none

def resDs (P : Program) (H : Heap) (tmps : List D) : List ResultVar → Option (List D)
  | [] => some []
  | r :: rs => match resD P H tmps r, resDs P H tmps rs with
    | some d, some ds => some (d :: ds)
    | _, _ => none

/-- A value made data of a shape, and the rows that go over into it. -/
def frzD (rd : Nat → Option Row) : Option Ty → D → Option (D × List Nat)
  | none, d => some (d, [])
  | some t, d => match cellsOf d with
    | some cs => match t.ofCells rd cs with
      | some x => match d with
        | .agg _ => some (.agg (t.cells x), killIds cs)
        | _ => match t.cells x with
          | [y] => some (y, killIds cs)
          | _ => none
      | none => none
    | none => none

def frzDs (rd : Nat → Option Row) : List (Option Ty) → List D → Option (List D × List Nat)
  | [], [] => some ([], [])
  | h :: hs, d :: ds => match frzD rd h d, frzDs rd hs ds with
    | some (d', k), some (ds', ks) => some (d' :: ds', k ++ ks)
    | _, _ => none
  | _, _ => none

def retD : List D → D
  | [d] => d
  | ds => .tup ds

def rowsOf : List Slot → Option (List Row)
  | [] => some []
  | .live r :: l => (rowsOf l).map (r :: ·)
  | _ :: _ => none

def optsOf : List Slot → Option (List (Option Row))
  | [] => some []
  | .live r :: l => (optsOf l).map (some r :: ·)
  | .dead :: l => (optsOf l).map (none :: ·)
  | .free :: _ => none

/-- What a call has come to, by the state at its end. -/
def finS (P : Program) (rs : List ResultVar) (n : Nat) (how : List (Option Ty)) (s : St) : Option (D × List (Option Row) × List Row) :=
  match resDs P s.heap s.tmps rs with
  | some ds => match frzDs (hget s.heap) how ds with
    | some (ds', ks) =>
      let H := setWrites s.heap (ks.map fun i => (i, none))
      let ids := gcIds n H ds'
      if nodupB ks && packOk n ids H ds' then
        match optsOf ((packH ids H).take n), rowsOf ((packH ids H).drop n) with
        | some post, some allocs => some (retD (renDs (pos ids) ds'), post, allocs)
        | _, _ => none
      else none
    | none => none
  | none => none

end Go.Proofs.YtnakmganodkliaaAm
