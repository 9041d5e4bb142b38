/- What single operations do: new variables, loads, stores, literals. -/
import Derived.Test.YtnakmganodkliaaAm5
set_option linter.unusedVariables false
set_option linter.unusedSimpArgs false
namespace Go.Proofs.YtnakmganodkliaaAm
open Go

theorem slot_put (X : Ctx) {id : Nat} (s : Slot) (l : Option Loc) (S' : Nat → Prop) (w' : World) (h : id < X.H.length) : slot (X.put id s l S' w').H id = s := by
  show slot (X.H.set id s) id = s
  rw [slot_set, if_pos ⟨rfl, h⟩]

theorem run_sizeOf' {P : Program} {t : TypeId} {i : TypeInfo} (h : P.info? t = some i) (w : World) : (sizeOf t).run P w = .ok i.size w := by simp [sizeOf, typeInfo, h]

theorem run_isAgg {P : Program} {t : TypeId} (h : (P.underlying t).isSome = true) (w : World) : (isAgg t).run P w = .ok (aggB P t) w := by
  obtain ⟨d, hd⟩ := Option.isSome_iff_exists.1 h
  unfold isAgg aggB
  rw [hd]
  cases d <;> simp [run_underlying hd]

theorem under_of_info {P : Program} {t : TypeId} {d : TypeDesc} (h : P.underlying t = some d) : ∃ i, P.info? t = some i := by
  unfold Program.underlying at h
  cases hi : P.info? t with
  | none => rw [hi] at h; cases h
  | some i => exact ⟨i, rfl⟩

section
variable {P : Program} {b : Beg} {X : Ctx}

theorem zeroD_some {t : TypeId} {cs : List D} (h : zeroD P t = some cs) : ∃ i z, P.info? t = some i ∧ i.zero = some z ∧ z.cells.size = i.size ∧ (∀ u, u ∈ z.cells.toList → u.oneCell' = true) ∧ cs = z.cells.toList.map .v := by
  unfold zeroD at h
  split at h
  · rename_i i hi
    split at h
    · rename_i z hz
      split at h
      · rename_i hc
        simp only [Bool.and_eq_true, decide_eq_true_eq, List.all_eq_true] at hc
        simp only [Option.some.injEq] at h
        exact ⟨i, z, hi, hz, hc.1, hc.2, h.symm⟩
      · cases h
    · cases h
  · cases h

/-- A new variable of the call's own. -/
theorem s_newBox (M : Mem b X) {nid : Nat} (hf : slot X.H nid = .free) (hl : nid < X.H.length) (hn : b.n ≤ nid) (t : TypeId) {cs : List D} {u : Value} (hr : RelDs X cs u.cells.toList) (h1 : ∀ v, v ∈ u.cells.toList → v.oneCell' = true) :
    ∃ v X', (do pure (.pointer (some (← newVar t u))) : Sem Value).run P X.w = .ok v X'.w ∧ Mem b X' ∧ X'.H = X.H.set nid (.live (.box t cs)) ∧ Le X X' ∧ RelD X' (.ptr nid 0 0) v := by
  have hc : Content X (.box t cs) ⟨X.w.heap.size, 0, u.cells.size⟩ u.cells t := ⟨rfl, rfl, u.cells.toList, by simp, hr, h1⟩
  obtain ⟨M', L'⟩ := mem_alloc M hf hl hn (.box t cs) u.cells t hc
  refine ⟨.pointer (some ⟨X.w.heap.size, 0, none⟩), _, ?_, M', rfl, L', ?_⟩
  · rfl
  · simp only [RelD]
    rw [slot_put X _ _ _ _ hl]
    exact ⟨⟨X.w.heap.size, 0, u.cells.size⟩, by simp [Ctx.put], rfl⟩

theorem s_alloc (M : Mem b X) {nid : Nat} (hf : slot X.H nid = .free) (hl : nid < X.H.length) (hn : b.n ≤ nid) {t : TypeId} {cs : List D} (hz : zeroD P t = some cs) :
    ∃ v X', (Instr.alloc t true (.tuple #[])).run P X.w = .ok v X'.w ∧ Mem b X' ∧ X'.H = X.H.set nid (.live (.box t cs)) ∧ Le X X' ∧ RelD X' (.ptr nid 0 0) v := by
  obtain ⟨i, z, hi, hz', hs, h1, rfl⟩ := zeroD_some hz
  obtain ⟨v, X', hr, h2⟩ := s_newBox (P := P) M hf hl hn t (u := z) (relDs_v _) h1
  refine ⟨v, X', ?_, h2⟩
  rw [← hr]
  simp [Instr.alloc, zeroValue, typeInfo, hi, hz']

theorem s_box (M : Mem b X) {nid : Nat} (hf : slot X.H nid = .free) (hl : nid < X.H.length) (hn : b.n ≤ nid) (t : TypeId) {d : D} {cs : List D} {u : Value} (hc : cellsOf d = some cs) (hr : RelD X d u) :
    ∃ v X', (Instr.box t u).run P X.w = .ok v X'.w ∧ Mem b X' ∧ X'.H = X.H.set nid (.live (.box t cs)) ∧ Le X X' ∧ RelD X' (.ptr nid 0 0) v := by
  obtain ⟨h1, h2⟩ := cellsOf_rel hc hr
  exact s_newBox (P := P) M hf hl hn t h1 (cells_all_one h2 h1)

/-- A value read out of cells. -/
theorem valD_load {t : TypeId} {i : TypeInfo} (hi : P.info? t = some i) (hu : (P.underlying t).isSome = true) {cs : List D} {d : D} {us : List Value} {a : Addr} (hr : RelDs X cs us) (hl : cs.length = i.size)
    (hv : valD P t cs = some d) (hc : ∀ j u, us[j]? = some u → X.w.cell? (a.add j) = some u) :
    ∃ v, (loadVar t a).run P X.w = .ok v X.w ∧ RelD X d v := by
  have hlen := relDs_length hr
  unfold valD at hv
  split at hv
  · rename_i ha
    simp only [Option.some.injEq] at hv
    subst hv
    refine ⟨.agg us.toArray, ?_, by simp only [RelD]; exact ⟨us, rfl, hr⟩⟩
    have := run_loadCells_list (P := P) X.w a us hc
    rw [hlen, hl] at this
    simp [loadVar, run_isAgg hu, ha, run_sizeOf' hi, this]
  · rename_i ha
    split at hv
    · rename_i d'
      simp only [Option.some.injEq] at hv
      subst hv
      obtain ⟨u, e, h1⟩ := relDs_one.1 hr
      subst e
      refine ⟨u, ?_, h1⟩
      have h0 := hc 0 u rfl
      have hadd : a.add 0 = a := by simp [Addr.add]
      rw [hadd] at h0
      have ha' : aggB P t = false := by simpa using ha
      simp [loadVar, run_isAgg hu, ha', h0]
    · cases hv

theorem under_some {t : TypeId} {i : TypeInfo} (hi : P.info? t = some i) (hv : ∃ d, P.underlying t = some d) : (P.underlying t).isSome = true := by
  obtain ⟨d, h⟩ := hv
  rw [h]; rfl

/-- The cells that a pointer into a row of the call's own leads to. -/
theorem ptr_cells (M : Mem b X) {id i off : Nat} {u : Value} (h : RelD X (.ptr id i off) u) {r : Row} (hr : hget X.H id = some r) :
    ∃ l cs ty, X.ρ id = some l ∧ u = .pointer (some ⟨l.b, l.o + (match r with | .box _ _ => off | .data _ t _ => i * t.size + off), none⟩) ∧ X.w.heap[l.b]? = some (.cells cs ty (0, 0)) ∧ Content X r l cs ty := by
  simp only [RelD] at h
  rw [hget_live.1 hr] at h
  obtain ⟨l, hl, e⟩ := h
  have hrow := M.rows id r hr
  rw [hl] at hrow
  obtain ⟨cs, ty, hb, hc⟩ := hrow
  exact ⟨l, cs, ty, hl, e, hb, hc⟩

theorem s_load_box (M : Mem b X) {t : TypeId} {i : TypeInfo} (hi : P.info? t = some i) (hu : (P.underlying t).isSome = true) {id k off : Nat} {u : Value} (h : RelD X (.ptr id k off) u) {bt : TypeId} {ds : List D}
    (hr : hget X.H id = some (.box bt ds)) (hfit : off + i.size ≤ ds.length) {d : D} (hv : valD P t ((ds.drop off).take i.size) = some d) :
    ∃ v, (Instr.loadAt t u).run P X.w = .ok v X.w ∧ RelD X d v := by
  obtain ⟨l, cs, ty, hl, e, hb, hn, ho, us, ecs, hds, h1⟩ := ptr_cells M h hr
  subst e
  have := valD_load (P := P) (X := X) (a := ⟨l.b, l.o + off, none⟩) hi hu (relDs_take i.size (relDs_drop off hds)) (by simp; omega) hv (fun j v hj => by
    rw [add_plain, cell_of_row _ _ _ _ _ _ hb, ecs, ho]
    rw [List.getElem?_take] at hj
    split at hj
    · rw [List.getElem?_drop] at hj
      simp only [Nat.zero_add, List.getElem?_toArray]
      exact hj
    · cases hj)
  obtain ⟨v, hv1, hv2⟩ := this
  exact ⟨v, by simpa [Instr.loadAt, Instr.sureAddr] using hv1, hv2⟩

theorem s_load_data (M : Mem b X) {t : TypeId} {i : TypeInfo} (hi : P.info? t = some i) (hu : (P.underlying t).isSome = true) {id k off : Nat} {u : Value} (h : RelD X (.ptr id k off) u) {e : TypeId} {ty : Ty} {xs : List ty.El}
    (hr : hget X.H id = some (.data e ty xs)) (hfit : off + i.size ≤ ty.size) (hk : k < xs.length) {d : D} (hv : valD P t (((ty.cells (xs.getD k ty.dflt)).drop off).take i.size) = some d) :
    ∃ v, (Instr.loadAt t u).run P X.w = .ok v X.w ∧ RelD X d v := by
  obtain ⟨l, cs, bt, hl, e, hb, hn, he, us, hreps, h1, _, hcs⟩ := ptr_cells M h hr
  subst e
  have hx : xs[k]? = some (xs.getD k ty.dflt) := by simp [List.getD_eq_getElem?_getD, hk]
  have hel := hreps.get (RelE_length ty) hx
  have hcells := relE_cells X ty _ _ hel
  have := valD_load (P := P) (X := X) (a := ⟨l.b, l.o + (k * ty.size + off), none⟩) hi hu (relDs_take i.size (relDs_drop off hcells)) (by simp [ty_cells_length]; omega) hv (fun j v hj => by
    rw [add_plain, cell_of_row _ _ _ _ _ _ hb]
    rw [List.getElem?_take] at hj
    split at hj
    · rw [List.getElem?_drop, List.getElem?_take] at hj
      split at hj
      · rw [List.getElem?_drop] at hj
        have := hcs _ _ hj
        rw [← this]
        congr 1
        omega
      · cases hj
    · cases hj)
  obtain ⟨v, hv1, hv2⟩ := this
  exact ⟨v, by simpa [Instr.loadAt, Instr.sureAddr] using hv1, hv2⟩

theorem s_load_ro {t : TypeId} {i : TypeInfo} (hi : P.info? t = some i) (hu : (P.underlying t).isSome = true) {ds : List D} {u : Value} (h : RelD X (.rptr ds) u) (hfit : i.size ≤ ds.length) {d : D} (hv : valD P t (ds.take i.size) = some d) :
    ∃ v, (Instr.loadAt t u).run P X.w = .ok v X.w ∧ RelD X d v := by
  simp only [RelD] at h
  obtain ⟨a, us, e, hds, hat⟩ := h
  subst e
  have := valD_load (P := P) (X := X) (a := a) hi hu (relDs_take i.size hds) (by simp; omega) hv (fun j v hj => by
    rw [List.getElem?_take] at hj
    split at hj
    · obtain ⟨a', e, _, hc⟩ := hat j v hj
      cases e
      exact hc
    · cases hj)
  obtain ⟨v, hv1, hv2⟩ := this
  exact ⟨v, by simpa [Instr.loadAt, Instr.sureAddr] using hv1, hv2⟩

theorem list_splice {α : Type} (l v : List α) (o : Nat) (h : o + v.length ≤ l.length) (j : Nat) :
    (l.take o ++ v ++ l.drop (o + v.length))[j]? = if j < o then l[j]? else if j < o + v.length then v[j - o]? else l[j]? := by
  rw [List.append_assoc, List.getElem?_append]
  simp only [List.length_take, show min o l.length = o by omega]
  split
  · rename_i hj; rw [List.getElem?_take, if_pos hj]
  · rename_i hj
    rw [List.getElem?_append]
    split
    · rename_i h2; rw [if_pos (by omega)]
    · rename_i h2; rw [if_neg (by omega), List.getElem?_drop]; congr 1; omega

/-- A store of some cells into a row of the call's own. -/
theorem s_cells (M : Mem b X) {id : Nat} {r0 r : Row} (h0 : hget X.H id = some r0) {l : Loc} (hl : X.ρ id = some l) (hcomp : Comp r0 r) {cs : Array Value} {ty : TypeId} (hb : X.w.heap[l.b]? = some (.cells cs ty (0, 0)))
    (o : Nat) (vs : List Value) (hfit : o + vs.length ≤ cs.size) (h1 : ∀ v, v ∈ vs → v.oneCell' = true)
    (hc : Content X r l (cs.toList.take o ++ vs ++ cs.toList.drop (o + vs.length)).toArray ty) :
    ∃ X', (storeCells ⟨l.b, o, none⟩ vs).run P X.w = .ok () X'.w ∧ Mem b X' ∧ X'.H = X.H.set id (.live r) ∧ Le X X' ∧ X'.S = X.S := by
  have hst := run_storeCells_at (P := P) l.b o ty vs 0 cs X.w hb (by simpa using hfit) h1
  simp only [Nat.add_zero] at hst
  have hset := setRow_heap X.w l.b cs (cs.toList.take o ++ vs ++ cs.toList.drop (o + vs.length)).toArray ty (0, 0) hb
  obtain ⟨M', L'⟩ := mem_write M h0 hl r hcomp (X.w.setRow l.b (cs.toList.take o ++ vs ++ cs.toList.drop (o + vs.length)).toArray) rfl rfl rfl (by simp) (fun k hk => setRow_other X.w l.b k _ hk) _ ty hset hc
  exact ⟨_, hst, M', rfl, L', rfl⟩

end
end Go.Proofs.YtnakmganodkliaaAm
