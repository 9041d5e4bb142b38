/- One operation does what is computed of it: built-in functions. -/
import Derived.Test.YtnakmganodkliaaAmF
set_option linter.unusedVariables false
set_option linter.unusedSimpArgs false
namespace Go.Proofs.YtnakmganodkliaaAm
open Go

section
variable {P : Program} {b : Beg} {X : Ctx}
variable {nid : Nat} {sp : Sp} {o : Oper} {ev : Operand → D} {va : Operand → Value} {E : Eff} {rd : Nat → Option Row}

theorem exec_builtin {c : Call} {B : Builtin} (ho : o.op = .call c) (hc : c.callee = .builtin B) (w : World) :
    ∃ cs, (execOp va o).run P w = (builtin B c.argTypes o.type cs (c.args.map va)).run P w := by
  simp only [execOp, ho, resolve, hc]
  rw [Sem.run_bind]
  simp only [Sem.run_pure]
  exact ⟨_, rfl⟩

theorem args_eq {c : Call} {l : List Operand} (h : c.args.toList = l) : c.args.map va = (l.map va).toArray := by
  rw [← h, ← Array.toList_map]

theorem types_eq {c : Call} {l : List TypeId} (h : c.argTypes.toList = l) : c.argTypes = l.toArray := by
  rw [← h]

theorem map_two {l : List Operand} {x y : D} (h : l.map ev = [x, y]) : ∃ p q, l = [p, q] ∧ ev p = x ∧ ev q = y := by
  match l, h with
  | [p, q], h => simp only [List.map_cons, List.map_nil, List.cons.injEq, and_true] at h; exact ⟨p, q, rfl, h.1, h.2⟩
  | [], h => simp at h
  | [_], h => simp at h
  | _ :: _ :: _ :: _, h => simp at h

theorem map_one {l : List Operand} {x : D} (h : l.map ev = [x]) : ∃ p, l = [p] ∧ ev p = x := by
  match l, h with
  | [p], h => simp only [List.map_cons, List.map_nil, List.cons.injEq, and_true] at h; exact ⟨p, rfl, h⟩
  | [], h => simp at h
  | _ :: _ :: _, h => simp at h

theorem bi_append (M : Mem b X) (hrd : ∀ id r, rd id = some r → hget X.H id = some r) {s x : D} {e e' t t' oty : TypeId} {v0 u : Value} (hs : RelD X s v0) (hu : RelD X x u) (ht : P.underlying t = some (.slice e)) (ht' : P.underlying t' = some (.slice e'))
    (h : appEff P rd nid s x e = some E) (hob : ∀ p ∈ E.obl, p) (hf : Free X nid E.allocs.length) (hn : b.n ≤ nid) :
    ∃ v X', (Builtin.append_ #[t, t'] oty #[v0, u]).run P X.w = .ok v X'.w ∧ Mem b X' ∧ X'.H = setWrites (setAllocs X.H nid E.allocs) E.writes ∧ Le X X' ∧ RelD X' E.val v := by
  unfold appEff at h
  split at h
  · rename_i ty _
    split at h
    · rename_i hg
      simp only [Bool.and_eq_true, decide_eq_true_eq] at hg
      obtain ⟨z, hz⟩ := Option.isSome_iff_exists.1 hg.2
      have h0 : ty.size ≠ 0 := by simpa using hg.1.2
      split at h
      · rename_i ys hys
        split at h
        · simp only [Option.some.injEq] at h
          subst h
          simp only [RelD] at hs
          subst hs
          exact s_append_nil M hf.one.1 hf.one.2 hn rd hrd ht ht' hz hg.1.1 h0 hys hu (hob _ (List.mem_singleton.2 rfl))
        · split at h
          · rename_i hty
            subst hty
            simp only [Option.some.injEq] at h
            subst h
            exact s_append_closed M hf.one.1 hf.one.2 hn rd hrd ht ht' hz hg.1.1 h0 hys hu hs (hob _ (List.mem_singleton.2 rfl))
          · cases h
        · rename_i id off len cap
          split at h
          · rename_i e2 ty' xs hr
            split at h
            · rename_i hty
              subst hty
              split at h
              · rename_i he
                subst he
                split at h
                · rename_i hcap
                  subst hcap
                  simp only [Option.some.injEq] at h
                  subst h
                  exact s_append_zero M hf.one.1 hf.one.2 hn rd hrd ht ht' hz hg.1.1 h0 hys hu (hrd _ _ hr) hs (hob _ (List.mem_singleton.2 rfl))
                · simp only [Option.some.injEq] at h
                  subst h
                  exact s_append_own M hf.one.1 hf.one.2 hn rd hrd ht ht' hz hg.1.1 h0 hys hu (hrd _ _ hr) hs (hob _ (List.mem_singleton.2 rfl))
              · cases h
            · cases h
          · cases h
        · cases h
      · cases h
    · cases h
  · cases h

theorem op_builtin (M : Mem b X) (hev : ∀ x, RelD X (ev x) (va x)) (hrd : ∀ id r, rd id = some r → hget X.H id = some r) {c : Call} {B : Builtin} (ho : o.op = .call c) (hc : c.callee = .builtin B)
    (h : opEff P rd nid sp o ev = some E) (hob : ∀ p ∈ E.obl, p) (hf : Free X nid E.allocs.length) (hn : b.n ≤ nid) : Step P b X nid o va E := by
  simp only [opEff, ho, hc] at h
  obtain ⟨cs, hx⟩ := exec_builtin (va := va) (P := P) ho hc X.w
  clear hc ho
  generalize hal : c.args.toList.map ev = al at h
  generalize htl : c.argTypes.toList = tl at h
  unfold biEff at h
  split at h
  · -- len
    unfold lenEff at h
    split at h
    rotate_left
    · cases h
    rename_i x t
    obtain ⟨p, hp, rfl⟩ := map_one hal
    rw [args_eq hp, types_eq htl] at hx
    have hu := hev p
    split at h
    · rename_i e hu'
      split at h
      · rename_i n hl
        simp only [Option.some.injEq] at h
        subst h
        obtain ⟨A, k, e⟩ := lenD_rel hl hu
        refine step_pure M (v := .int .i64 (n : Nat)) ?_ (by simp only [RelD])
        rw [hx]
        simp [builtin, Builtin.len_, run_underlying hu', e, goInt]
      · cases h
    · rename_i hu'
      split at h
      · rename_i s he
        rw [he] at hu
        simp only [RelD] at hu
        simp only [Option.some.injEq] at h
        subst h
        refine step_pure M (v := .int .i64 (s.size : Nat)) ?_ (by simp only [RelD])
        rw [hx]
        simp [builtin, Builtin.len_, run_underlying hu', hu, goInt]
      · cases h
    · rename_i n e hu'
      simp only [Option.some.injEq] at h
      subst h
      refine step_pure M (v := .int .i64 (n : Nat)) ?_ (by simp only [RelD])
      rw [hx]
      simp [builtin, Builtin.len_, run_underlying hu', goInt]
    · cases h
  · -- cap
    unfold capEff at h
    split at h
    rotate_left
    · cases h
    rename_i x t
    obtain ⟨p, hp, rfl⟩ := map_one hal
    rw [args_eq hp, types_eq htl] at hx
    have hu := hev p
    split at h
    · rename_i e hu'
      split at h
      · rename_i id off len k he
        rw [he] at hu
        simp only [Option.some.injEq] at h
        subst h
        obtain ⟨A, e⟩ := capD_rel hu
        refine step_pure M (v := .int .i64 (k : Nat)) ?_ (by simp only [RelD])
        rw [hx]
        simp [builtin, Builtin.cap_, run_underlying hu', e, goInt]
      · cases h
    · cases h
  · -- min
    unfold minEff at h
    split at h
    rotate_left
    · cases h
    rename_i k x k' y
    obtain ⟨p, q, hp, h1, h2⟩ := map_two hal
    rw [args_eq hp] at hx
    have hu := hev p
    have hv := hev q
    rw [h1] at hu
    rw [h2] at hv
    simp only [RelD] at hu hv
    simp only [Option.some.injEq] at h
    subst h
    refine step_pure M (v := .int k (if y < x then y else x)) ?_ (by simp only [RelD])
    rw [hx]
    simp [builtin, Builtin.min_, Builtin.min2, hu, hv]
  · -- max
    unfold maxEff at h
    split at h
    rotate_left
    · cases h
    rename_i k x k' y
    obtain ⟨p, q, hp, h1, h2⟩ := map_two hal
    rw [args_eq hp] at hx
    have hu := hev p
    have hv := hev q
    rw [h1] at hu
    rw [h2] at hv
    simp only [RelD] at hu hv
    simp only [Option.some.injEq] at h
    subst h
    refine step_pure M (v := .int k (if y > x then y else x)) ?_ (by simp only [RelD])
    rw [hx]
    simp [builtin, Builtin.max_, Builtin.max2, hu, hv]
  · -- append
    split at h
    rotate_left
    · cases h
    rename_i s x t t'
    obtain ⟨p, q, hp, rfl, rfl⟩ := map_two hal
    rw [args_eq hp, types_eq htl] at hx
    split at h
    · rename_i e e' hu hu'
      obtain ⟨v, X', h1, h2⟩ := bi_append (oty := o.type) M hrd (hev p) (hev q) hu hu' h hob hf hn
      refine ⟨_, v, X', ?_, .inl rfl, h2⟩
      rw [hx]
      exact run_v h1
    · cases h
  · -- copy
    split at h
    rotate_left
    · cases h
    rename_i s x t t'
    obtain ⟨p, q, hp, rfl, rfl⟩ := map_two hal
    rw [args_eq hp, types_eq htl] at hx
    split at h
    · rename_i e hu
      unfold copyEff at h
      have hs := hev p
      split at h
      · rename_i id off len cap he
        rw [he] at hs
        split at h
        · rename_i e' ty xs hr
          split at h
          · rename_i hg
            simp only [Bool.and_eq_true, decide_eq_true_eq] at hg
            obtain ⟨⟨hg1, hg2⟩, hg3⟩ := hg
            subst hg3
            obtain ⟨i, hi', hsz⟩ := size_info hg1 (by simpa using hg2)
            split at h
            · rename_i ys hys
              simp only [Option.some.injEq] at h
              subst h
              obtain ⟨X', h1, h2, h3, h4⟩ := s_copy (oty := o.type) (t' := t') M rd hrd hu hi' hsz hys (hev q) (hrd _ _ hr) hs
              refine ⟨_, .int .i64 ((min (List.length ys) len : Nat) : Int), X', ?_, .inl rfl, h2, h3, h4, by simp only [RelD]⟩
              rw [hx]
              exact run_v h1
            · cases h
          · cases h
        · cases h
      · cases h
    · cases h
  · -- clear
    split at h
    rotate_left
    · cases h
    rename_i s t
    obtain ⟨p, hp, rfl⟩ := map_one hal
    rw [args_eq hp, types_eq htl] at hx
    split at h
    · rename_i e hu
      unfold clearEff at h
      have hs := hev p
      split at h
      · rename_i id off len cap z he hz
        rw [he] at hs
        split at h
        · rename_i e' ty xs hr
          split at h
          · rename_i hg
            simp only [Bool.and_eq_true, decide_eq_true_eq] at hg
            obtain ⟨⟨hg1, hg2⟩, hg3⟩ := hg
            subst hg3
            split at h
            · rename_i y hy
              simp only [Option.some.injEq] at h
              subst h
              obtain ⟨X', h1, h2, h3, h4⟩ := s_clear (oty := o.type) M rd hrd hu hz hg1 (by simpa using hg2) hy (hrd _ _ hr) hs
              refine ⟨_, .tuple #[], X', ?_, .inl rfl, h2, h3, h4, by simp only [RelD]; rfl⟩
              rw [hx]
              exact run_v h1
            · cases h
          · cases h
        · cases h
      · cases h
    · cases h
  · cases h

end
end Go.Proofs.YtnakmganodkliaaAm
