/- What single operations do: stores, literals, made slices. -/
import Derived.Test.YtnakmganodkliaaAm6
set_option linter.unusedVariables false
set_option linter.unusedSimpArgs false
namespace Go.Proofs.YtnakmganodkliaaAm
open Go

theorem setWrites_set : ∀ (ws : List (Nat × Option Row)) (H : Heap) (id : Nat) (s : Slot), (∀ p ∈ ws, p.1 ≠ id) → setWrites (H.set id s) ws = (setWrites H ws).set id s
  | [], H, id, s, _ => rfl
  | (i, r) :: ws, H, id, s, h => by
    simp only [setWrites]
    rw [List.set_comm _ _ (fun e => h (i, r) (by simp) e.symm), setWrites_set ws _ id s (fun p hp => h p (by simp [hp]))]

theorem setWrites_length : ∀ (ws : List (Nat × Option Row)) (H : Heap), (setWrites H ws).length = H.length
  | [], H => rfl
  | (i, r) :: ws, H => by simp only [setWrites]; rw [setWrites_length]; simp

theorem kills_ne {cs : List D} {id : Nat} (h : id ∉ killIds cs) : ∀ p ∈ kills cs, p.1 ≠ id := by
  intro p hp e
  simp only [kills, List.mem_map] at hp
  obtain ⟨i, hi, rfl⟩ := hp
  exact h (e ▸ hi)

theorem hget_setWrites : ∀ (ws : List (Nat × Option Row)) (H : Heap) (id : Nat), (∀ p ∈ ws, p.1 ≠ id) → hget (setWrites H ws) id = hget H id
  | [], H, id, _ => rfl
  | (i, r) :: ws, H, id, h => by
    simp only [setWrites]
    rw [hget_setWrites ws _ id (fun p hp => h p (by simp [hp])), hget_set, if_neg (fun e => h (i, r) (by simp) e.1)]

theorem slot_setWrites : ∀ (ws : List (Nat × Option Row)) (H : Heap) (id : Nat), (∀ p ∈ ws, p.1 ≠ id) → slot (setWrites H ws) id = slot H id
  | [], H, id, _ => rfl
  | (i, r) :: ws, H, id, h => by
    simp only [setWrites]
    rw [slot_setWrites ws _ id (fun p hp => h p (by simp [hp])), slot_set, if_neg (fun e => h (i, r) (by simp) e.1)]

theorem splice_in {α : Type} (l v : List α) (a n o : Nat) (h1 : o + v.length ≤ n) (h2 : a + n ≤ l.length) :
    l.take a ++ (((l.drop a).take n).take o ++ v ++ ((l.drop a).take n).drop (o + v.length)) ++ l.drop (a + n) = l.take (a + o) ++ v ++ l.drop (a + o + v.length) := by
  have e1 : l.take (a + o) = l.take a ++ (l.drop a).take o := List.take_add
  have e2 : ((l.drop a).take n).take o = (l.drop a).take o := by rw [List.take_take]; congr 1; omega
  have e3 : ((l.drop a).take n).drop (o + v.length) ++ l.drop (a + n) = l.drop (a + o + v.length) := by
    rw [List.drop_take, List.drop_drop]
    have : l.drop (a + n) = (l.drop (a + (o + v.length))).drop (n - (o + v.length)) := by rw [List.drop_drop]; congr 1; omega
    rw [this, List.take_append_drop]
    congr 1
    omega
  rw [e1, e2, ← e3]
  simp [List.append_assoc]

section
variable {P : Program} {b : Beg} {X : Ctx}

theorem s_store_box (M : Mem b X) {t : TypeId} {i : TypeInfo} (hi : P.info? t = some i) {id k off : Nat} {u v : Value} (h : RelD X (.ptr id k off) u) {bt : TypeId} {ds : List D} (hr : hget X.H id = some (.box bt ds))
    {d : D} {cs : List D} (hc : cellsOf d = some cs) (hv : RelD X d v) (hs : cs.length = i.size) (hfit : off + i.size ≤ ds.length) :
    ∃ X', (Instr.storeAt t u v).run P X.w = .ok () X'.w ∧ Mem b X' ∧ X'.H = X.H.set id (.live (.box bt (ds.take off ++ cs ++ ds.drop (off + i.size)))) ∧ Le X X' := by
  obtain ⟨l, acs, ty, hl, e, hb, hn, ho, us, ecs, hds, h1⟩ := ptr_cells M h hr
  obtain ⟨hcs, hall⟩ := cellsOf_rel hc hv
  have hlen := relDs_length hcs
  have hlen2 := relDs_length hds
  subst e
  have hsz : v.cells.toList.length = i.size := by rw [hlen, hs]
  have hc' : Content X (.box bt (ds.take off ++ cs ++ ds.drop (off + i.size))) l (acs.toList.take (l.o + off) ++ v.cells.toList ++ acs.toList.drop (l.o + off + v.cells.toList.length)).toArray ty := by
    refine ⟨?_, ho, us.take off ++ v.cells.toList ++ us.drop (off + i.size), ?_, ?_, ?_⟩
    · rw [← hn, ecs]
      simp [ho]
      have : v.cells.size = i.size := by simpa using hsz
      omega
    · rw [ecs, ho, hsz]
      simp
    · exact relDs_append.2 ⟨_, _, rfl, relDs_append.2 ⟨_, _, rfl, relDs_take off hds, hcs⟩, relDs_drop _ hds⟩
    · intro w hw
      simp only [List.mem_append] at hw
      rcases hw with (hw | hw) | hw
      · exact h1 w (List.mem_of_mem_take hw)
      · exact cells_all_one hall hcs w hw
      · exact h1 w (List.mem_of_mem_drop hw)
  obtain ⟨X', hrun, M', hH, L', _⟩ := s_cells (P := P) M hr hl (r := .box bt (ds.take off ++ cs ++ ds.drop (off + i.size))) trivial hb (l.o + off) v.cells.toList (by rw [ecs, ho, hsz]; simp; omega) (cells_all_one hall hcs) hc'
  refine ⟨X', ?_, M', hH, L'⟩
  have hsz' : v.cells.size = i.size := by simpa using hsz
  simp [Instr.storeAt, Instr.sureAddr, storeVar, run_sizeOf' hi, hsz', hrun]

theorem s_store_data (M : Mem b X) (rd : Nat → Option Row) (hrd : ∀ id r, rd id = some r → hget X.H id = some r) {t : TypeId} {i : TypeInfo} (hi : P.info? t = some i) {id k off : Nat} {u v : Value} (h : RelD X (.ptr id k off) u) {e : TypeId} {ty : Ty} {xs : List ty.El} (hr : hget X.H id = some (.data e ty xs))
    {d : D} {cs : List D} (hc : cellsOf d = some cs) (hv : RelD X d v) (hs : cs.length = i.size) (hfit : off + i.size ≤ ty.size) (hnd : nodupB (id :: killIds cs) = true) (hk : k < xs.length)
    {y : ty.El} (hy : ty.ofCells rd ((ty.cells (xs.getD k ty.dflt)).take off ++ cs ++ (ty.cells (xs.getD k ty.dflt)).drop (off + i.size)) = some y) :
    ∃ X', (Instr.storeAt t u v).run P X.w = .ok () X'.w ∧ Mem b X' ∧ X'.H = setWrites X.H ((id, some (.data e ty (xs.set k y))) :: kills cs) ∧ Le X X' := by
  obtain ⟨hni, hnd'⟩ := nodupB_cons hnd
  obtain ⟨hcs, hall⟩ := cellsOf_rel hc hv
  have hlen := relDs_length hcs
  -- the element as it will be: its cells
  have hx : xs[k]? = some (xs.getD k ty.dflt) := by simp [List.getD_eq_getElem?_getD, hk]
  obtain ⟨l, acs, bt, hl, eu, hb, hn, he, us, hreps, h1, hbig, hacs⟩ := ptr_cells M h hr
  have hel := hreps.get (RelE_length ty) hx
  have hcells := relE_cells X ty _ _ hel
  have hnew : RelDs X ((ty.cells (xs.getD k ty.dflt)).take off ++ cs ++ (ty.cells (xs.getD k ty.dflt)).drop (off + i.size)) (((us.drop (k * ty.size)).take ty.size).take off ++ v.cells.toList ++ ((us.drop (k * ty.size)).take ty.size).drop (off + i.size)) :=
    relDs_append.2 ⟨_, _, rfl, relDs_append.2 ⟨_, _, rfl, relDs_take off hcells, hcs⟩, relDs_drop _ hcells⟩
  have hkeep : ∀ j, j ∈ killIds ((ty.cells (xs.getD k ty.dflt)).take off ++ cs ++ (ty.cells (xs.getD k ty.dflt)).drop (off + i.size)) → j ∈ killIds cs := by
    have hno : ∀ (t : Ty) (x : t.El) j, j ∉ killIds (t.cells x) := by
      intro t
      induction t with
      | prod a b iha ihb =>
        intro x j hj
        rw [mem_killIds] at hj
        obtain ⟨o, ln, cp, hm⟩ := hj
        simp only [Ty.cells] at hm
        rcases List.mem_append.1 hm with hm | hm
        · exact iha _ j (mem_killIds.2 ⟨o, ln, cp, hm⟩)
        · exact ihb _ j (mem_killIds.2 ⟨o, ln, cp, hm⟩)
      | _ => intro x j hj; simp [Ty.cells, killIds] at hj
    intro j hj
    rw [mem_killIds] at hj
    obtain ⟨o, ln, cp, hm⟩ := hj
    rcases List.mem_append.1 hm with hm | hm
    · rcases List.mem_append.1 hm with hm | hm
      · exact absurd (mem_killIds.2 ⟨o, ln, cp, List.mem_of_mem_take hm⟩) (hno _ _ _)
      · exact mem_killIds.2 ⟨o, ln, cp, hm⟩
    · exact absurd (mem_killIds.2 ⟨o, ln, cp, List.mem_of_mem_drop hm⟩) (hno _ _ _)
  have hlive : ∀ j ∈ killIds cs, hget X.H j ≠ none := by
    intro j hj
    have := (ofCells_rel (S' := fun _ => True) M (fun _ _ => trivial) rd hrd ty _ _ _ hy hnew (fun _ _ _ _ => trivial)).2.1 j
    refine this ?_
    rw [mem_killIds] at hj ⊢
    obtain ⟨o, ln, cp, hm⟩ := hj
    exact ⟨o, ln, cp, List.mem_append_left _ (List.mem_append_right _ hm)⟩
  obtain ⟨Y, MY, LY, hYH, hYρ, hYw, hYS, hYb, _⟩ := mem_kills (killIds cs) M hnd' hlive
  have hYr : hget Y.H id = some (.data e ty xs) := by
    rw [hYH]
    show hget (setWrites X.H (kills cs)) id = _
    rw [hget_setWrites _ _ _ (kills_ne hni), hr]
  have hE := (ofCells_rel M hYS rd hrd ty _ _ _ hy hnew (fun j hj => hYb j (hkeep j hj))).1
  rw [← hYw] at hE
  have hYl : Y.ρ id = some l := by rw [hYρ, hl]
  have hreps' : Reps (RelE Y.S Y.w ty) xs us := by
    rw [hYw]
    exact Reps_mono (fun x us h => RelE_mono (fun k hk => ⟨hYS k hk, rfl⟩) ty x us h) _ _ hreps
  have husl := reps_length hreps
  have hkn : k * ty.size + ty.size ≤ us.length := by
    rw [husl, ← Nat.succ_mul]
    exact Nat.mul_le_mul_right _ hk
  have hsz : v.cells.toList.length = i.size := by rw [hlen, hs]
  have hset := hreps'.set (RelE_length ty) hk hE
  rw [← hsz, splice_in us v.cells.toList (k * ty.size) ty.size off (by omega) hkn] at hset
  have hYbk : Y.w.heap[l.b]? = some (.cells acs bt (0, 0)) := by rw [hYw]; exact hb
  rw [← hn] at hbig
  have hsz2 : v.cells.size = i.size := by simpa using hsz
  have hc' : Content Y (.data e ty (xs.set k y)) l (acs.toList.take (l.o + (k * ty.size + off)) ++ v.cells.toList ++ acs.toList.drop (l.o + (k * ty.size + off) + v.cells.toList.length)).toArray bt := by
    refine ⟨?_, he, _, hset, ?_, ?_, ?_⟩
    · rw [← hn]
      have : v.cells.size = i.size := by simpa using hsz
      simp
      omega
    · intro w hw
      simp only [List.mem_append] at hw
      rcases hw with (hw | hw) | hw
      · exact h1 w (List.mem_of_mem_take hw)
      · exact cells_all_one hall hcs w hw
      · exact h1 w (List.mem_of_mem_drop hw)
    · rw [← hn]
      have : v.cells.size = i.size := by simpa using hsz
      simp
      omega
    · intro j w hj
      rw [list_splice _ _ _ (by omega)] at hj
      simp only [List.getElem?_toArray]
      rw [list_splice _ _ _ (by simp only [Array.length_toList]; omega)]
      by_cases c1 : j < k * ty.size + off
      · rw [if_pos c1] at hj
        rw [if_pos (by omega)]
        simpa using hacs _ _ hj
      · rw [if_neg c1] at hj
        rw [if_neg (by omega)]
        by_cases c2 : j < k * ty.size + off + v.cells.toList.length
        · rw [if_pos c2] at hj
          rw [if_pos (by omega)]
          rw [← hj]
          congr 1
          omega
        · rw [if_neg c2] at hj
          rw [if_neg (by omega)]
          simpa using hacs _ _ hj
  obtain ⟨X', hrun, M', hH, L', _⟩ := s_cells (P := P) MY hYr hYl (r := .data e ty (xs.set k y)) ⟨rfl, by simp⟩ hYbk (l.o + (k * ty.size + off)) v.cells.toList (by omega) (cells_all_one hall hcs) hc'
  refine ⟨X', ?_, M', ?_, LY.trans L'⟩
  · subst eu
    have hsz' : v.cells.size = i.size := by simpa using hsz
    rw [hYw] at hrun
    simp [Instr.storeAt, Instr.sureAddr, storeVar, run_sizeOf' hi, hsz', hrun]
  · rw [hH, hYH]
    show (setWrites X.H (kills cs)).set id _ = setWrites (X.H.set id _) (kills cs)
    rw [setWrites_set _ _ _ _ (kills_ne hni)]
    rfl

end
end Go.Proofs.YtnakmganodkliaaAm
