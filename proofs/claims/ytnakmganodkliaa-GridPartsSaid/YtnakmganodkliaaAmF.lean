/- One operation does what is computed of it: slices, places, built-in functions. -/
import Derived.Test.YtnakmganodkliaaAmE
set_option linter.unusedVariables false
set_option linter.unusedSimpArgs false
namespace Go.Proofs.YtnakmganodkliaaAm
open Go

section
variable {P : Program} {b : Beg} {X : Ctx}
variable {nid : Nat} {sp : Sp} {o : Oper} {ev : Operand → D} {va : Operand → Value} {E : Eff} {rd : Nat → Option Row}

theorem size_info {e : TypeId} {n : Nat} (h : n = P.cellsOf e) (h0 : n ≠ 0) : ∃ i, P.info? e = some i ∧ n = i.size := by
  obtain ⟨i, hi, hs⟩ := cellsOf_info (P := P) (t := e) (by rw [← h]; exact h0)
  exact ⟨i, hi, by rw [h, hs]⟩

theorem optInt_val (hev : ∀ x, RelD X (ev x) (va x)) {x : Option Operand} {r : Option Int} (h : optInt (x.map ev) = some r) (d : Int) : (x.map va = none ∧ r.getD d = d) ∨ ∃ k, x.map va = some (.int k (r.getD d)) := by
  rcases optInt_some hev h d with ⟨h1, h2, _⟩ | ⟨k, n, h1, h2⟩
  · exact .inl ⟨h1, h2⟩
  · subst h2
    exact .inr ⟨k, h1⟩

theorem op_slice (M : Mem b X) (hev : ∀ x, RelD X (ev x) (va x)) (hrd : ∀ id r, rd id = some r → hget X.H id = some r) {t : TypeId} {x : Operand} {lo hi mx : Option Operand} (ho : o.op = .slice t x lo hi mx) (h : opEff P rd nid sp o ev = some E) (hob : ∀ p ∈ E.obl, p) : Step P b X nid o va E := by
  simp only [opEff, ho] at h
  have hx := hev x
  split at h
  · rename_i e l hh m hu el eh em
    split at h
    · cases h
    · rename_i hmh
      have vl := optInt_val hev el 0
      have vm := optInt_some hev em 0
      have hmx : ∀ (n : Int), m.getD 0 = n → (mx.map va = none ∨ (hi.map va ≠ none ∧ ∃ k, mx.map va = some (.int k n))) := by
        intro n hn
        rcases vm with ⟨h1, _, _⟩ | ⟨k, n', h1, h2⟩
        · exact .inl h1
        · refine .inr ⟨?_, k, ?_⟩
          · subst h2
            intro hc
            rcases optInt_some hev eh 0 with ⟨_, _, h3⟩ | ⟨k2, n2, h3, _⟩
            · subst h3
              simp at hmh
            · rw [hc] at h3
              cases h3
          · subst h2
            simp only [Option.getD_some] at hn
            rw [h1, hn]
      have hmn : m = none → mx.map va = none := by
        intro hm
        rcases vm with ⟨h1, _, _⟩ | ⟨k, n', h1, h2⟩
        · exact h1
        · rw [hm] at h2
          cases h2
      have hms : ∀ n, m = some n → mx.map va ≠ none := by
        intro n hm
        rcases vm with ⟨_, _, h2⟩ | ⟨k, n', h1, h2⟩
        · rw [hm] at h2
          cases h2
        · rw [h1]
          simp
      split at h
      · rename_i id off len cap he
        rw [he] at hx
        have vh := optInt_val hev eh (len : Int)
        split at h
        · rename_i et ty xs hr
          split at h
          · rename_i hg
            simp only [Bool.and_eq_true, decide_eq_true_eq] at hg
            obtain ⟨i, hi', hsz⟩ := size_info hg.1 (by simpa using hg.2)
            split at h
            all_goals
              simp only [Option.some.injEq] at h
              subst h
              simp only [List.mem_cons, List.not_mem_nil, or_false, forall_eq_or_imp, forall_eq] at hob
            · obtain ⟨o1, o2, o3⟩ := hob
              obtain ⟨v, h1, h2⟩ := s_slice_own (P := P) hu hi' hx (hrd _ _ hr) hsz (cap' := none) _ _ _ _ _ 0 vl vh (hmx 0 rfl) o1 o2 (.inl ⟨hmn rfl, rfl, rfl, o3⟩)
              exact step_pure M (by simp only [execOp, ho]; exact run_v h1) h2
            · rename_i c
              obtain ⟨o1, o2, o3, o4⟩ := hob
              obtain ⟨v, h1, h2⟩ := s_slice_own (P := P) hu hi' hx (hrd _ _ hr) hsz (cap' := some _) _ _ _ _ _ 0 vl vh (hmx 0 rfl) o1 o2 (.inr (.inl ⟨hmn rfl, c, rfl, rfl, o3, o4⟩))
              exact step_pure M (by simp only [execOp, ho]; exact run_v h1) h2
            · rename_i m'
              obtain ⟨o1, o2, o3, o4⟩ := hob
              obtain ⟨v, h1, h2⟩ := s_slice_own (P := P) hu hi' hx (hrd _ _ hr) hsz (cap' := some _) _ _ _ _ _ m' vl vh (hmx m' rfl) o1 o2 (.inr (.inr (.inl ⟨hms m' rfl, rfl, rfl, o3, o4⟩)))
              exact step_pure M (by simp only [execOp, ho]; exact run_v h1) h2
            · rename_i m' c
              obtain ⟨o1, o2, o3, o4, o5⟩ := hob
              obtain ⟨v, h1, h2⟩ := s_slice_own (P := P) hu hi' hx (hrd _ _ hr) hsz (cap' := some _) _ _ _ _ _ m' vl vh (hmx m' rfl) o1 o2 (.inr (.inr (.inr ⟨hms m' rfl, c, rfl, rfl, o3, o4, o5⟩)))
              exact step_pure M (by simp only [execOp, ho]; exact run_v h1) h2
          · cases h
        · cases h
      · rename_i nn cl ty xs he
        rw [he] at hx
        have vh := optInt_val hev eh (xs.length : Int)
        split at h
        · rename_i hg
          simp only [Bool.and_eq_true, decide_eq_true_eq] at hg
          obtain ⟨i, hi', hsz⟩ := size_info hg.1 (by simpa using hg.2)
          split at h
          all_goals
            simp only [Option.some.injEq] at h
            subst h
            simp only [List.mem_cons, List.not_mem_nil, or_false, forall_eq_or_imp, forall_eq] at hob
          · obtain ⟨o1, o2, o3⟩ := hob
            obtain ⟨v, h1, h2⟩ := s_slice_ro (P := P) hu hi' hx hsz _ _ _ _ _ 0 vl vh (hmx 0 rfl) o1 o2 o3 false (.inl ⟨hmn rfl, rfl⟩)
            exact step_pure M (by simp only [execOp, ho]; exact run_v h1) h2
          · rename_i m'
            obtain ⟨o1, o2, o3, o4⟩ := hob
            obtain ⟨v, h1, h2⟩ := s_slice_ro (P := P) hu hi' hx hsz _ _ _ _ _ m' vl vh (hmx m' rfl) o1 o2 (by omega) true (.inr ⟨hms m' rfl, o3⟩)
            exact step_pure M (by simp only [execOp, ho]; exact run_v h1) h2
        · cases h
      · cases h
  · cases h

theorem op_field (M : Mem b X) (hev : ∀ x, RelD X (ev x) (va x)) (hrd : ∀ id r, rd id = some r → hget X.H id = some r) {t : TypeId} {x : Operand} {f : Nat} (ho : o.op = .fieldAddr t x f) (h : opEff P rd nid sp o ev = some E) : Step P b X nid o va E := by
  simp only [opEff, ho] at h
  have hx := hev x
  split at h
  · rename_i fs hu
    split at h
    · rename_i fd hfd
      split at h
      · rename_i h0
        split at h
        · rename_i id i off he
          rw [he] at hx
          split at h
          · rename_i r hr
            simp only [Option.some.injEq] at h
            subst h
            obtain ⟨v, h1, h2⟩ := s_field_ptr (P := P) M hu hfd h0 hx (hrd _ _ hr)
            exact step_pure M (by simp only [execOp, ho]; exact run_v h1) h2
          · cases h
        · rename_i cs he
          rw [he] at hx
          simp only [Option.some.injEq] at h
          subst h
          obtain ⟨v, h1, h2⟩ := s_field_ro (P := P) hu hfd h0 hx
          exact step_pure M (by simp only [execOp, ho]; exact run_v h1) h2
        · cases h
      · cases h
    · cases h
  · cases h

theorem op_indexAddr (M : Mem b X) (hev : ∀ x, RelD X (ev x) (va x)) (hrd : ∀ id r, rd id = some r → hget X.H id = some r) {t : TypeId} {x ix : Operand} (ho : o.op = .indexAddr t x ix) (h : opEff P rd nid sp o ev = some E) (hob : ∀ p ∈ E.obl, p) : Step P b X nid o va E := by
  simp only [opEff, ho] at h
  have hx := hev x
  have hi := hev ix
  split at h
  · rename_i k n hei
    rw [hei] at hi
    simp only [RelD] at hi
    split at h
    · rename_i e hu
      split at h
      · rename_i id off len cap he
        rw [he] at hx
        split at h
        · rename_i et ty xs hr
          split at h
          · rename_i hg
            simp only [Bool.and_eq_true, decide_eq_true_eq] at hg
            obtain ⟨i, hi', hsz⟩ := size_info hg.1 (by simpa using hg.2)
            simp only [Option.some.injEq] at h
            subst h
            simp only [List.mem_cons, List.not_mem_nil, or_false, forall_eq_or_imp, forall_eq] at hob
            obtain ⟨v, h1, h2⟩ := s_index_own (P := P) hu hi' hx (hrd _ _ hr) hsz k n hob.1 hob.2
            exact step_pure M (by simp only [execOp, ho, hi]; exact run_v h1) h2
          · cases h
        · cases h
      · rename_i id len sz he
        rw [he] at hx
        split at h
        · rename_i bt ds hr
          split at h
          · rename_i hg
            simp only [Bool.and_eq_true, decide_eq_true_eq] at hg
            obtain ⟨i, hi', hsz⟩ := size_info hg.1 (by simpa using hg.2)
            simp only [Option.some.injEq] at h
            subst h
            subst hsz
            simp only [List.mem_cons, List.not_mem_nil, or_false, forall_eq_or_imp, forall_eq] at hob
            obtain ⟨v, h1, h2⟩ := s_index_bsl (P := P) hu hi' hx (hrd _ _ hr) k n hob.1 hob.2
            exact step_pure M (by simp only [execOp, ho, hi]; exact run_v h1) h2
          · cases h
        · cases h
      · rename_i nn cl ty xs he
        rw [he] at hx
        split at h
        · rename_i hg
          simp only [Bool.and_eq_true, decide_eq_true_eq] at hg
          obtain ⟨i, hi', hsz⟩ := size_info hg.1 (by simpa using hg.2)
          simp only [Option.some.injEq] at h
          subst h
          simp only [List.mem_cons, List.not_mem_nil, or_false, forall_eq_or_imp, forall_eq] at hob
          obtain ⟨v, h1, h2⟩ := s_index_ro (P := P) hu hi' hx hsz k n hob.1 hob.2
          exact step_pure M (by simp only [execOp, ho, hi]; exact run_v h1) h2
        · cases h
      · cases h
    · rename_i len e hu
      split at h
      · cases h
      · rename_i h0
        obtain ⟨i, hi', hsz⟩ := cellsOf_info (P := P) h0
        split at h
        · rename_i id j off he
          rw [he] at hx
          split at h
          · rename_i bt ds hr
            simp only [Option.some.injEq] at h
            subst h
            simp only [List.mem_cons, List.not_mem_nil, or_false, forall_eq_or_imp, forall_eq] at hob
            obtain ⟨v, h1, h2⟩ := s_index_box (P := P) hu hi' hx (hrd _ _ hr) k n hob.1 hob.2
            rw [hsz]
            exact step_pure M (by simp only [execOp, ho, hi]; exact run_v h1) h2
          · cases h
        · rename_i cs he
          rw [he] at hx
          simp only [Option.some.injEq] at h
          subst h
          simp only [List.mem_cons, List.not_mem_nil, or_false, forall_eq_or_imp, forall_eq] at hob
          obtain ⟨v, h1, h2⟩ := s_index_arro (P := P) hu hi' hx k n hob.1 hob.2
          rw [hsz]
          exact step_pure M (by simp only [execOp, ho, hi]; exact run_v h1) h2
        · cases h
    · cases h
  · cases h

theorem op_index (M : Mem b X) (hev : ∀ x, RelD X (ev x) (va x)) {t : TypeId} {x ix : Operand} (ho : o.op = .index t x ix) (h : opEff P rd nid sp o ev = some E) (hob : ∀ p ∈ E.obl, p) : Step P b X nid o va E := by
  simp only [opEff, ho] at h
  have hx := hev x
  have hi := hev ix
  split at h
  · rename_i k n len e cs hei hu he
    rw [hei] at hi
    rw [he] at hx
    simp only [RelD] at hi
    split at h
    · rename_i s hs
      obtain ⟨i, hi', hu', rfl⟩ := sizeB_some hs
      rw [Option.map_eq_some_iff] at h
      obtain ⟨d, hd, rfl⟩ := h
      simp only [List.mem_cons, List.not_mem_nil, or_false, forall_eq_or_imp, forall_eq] at hob
      obtain ⟨v, h1, h2⟩ := s_index_agg (P := P) hu hi' hu' hx k n hob.1 hob.2.1 hob.2.2 hd
      exact step_pure M (by simp only [execOp, ho, hi]; exact run_v h1) h2
    · cases h
  · cases h

theorem lenD_rel {d : D} {n : Nat} (h : lenD d = some n) {u : Value} (hr : RelD X d u) :
    ∃ A c, u = .slice A n c := by
  unfold lenD at h
  split at h
  · simp only [Option.some.injEq] at h
    subst h
    simp only [RelD] at hr
    exact ⟨_, _, hr⟩
  · simp only [Option.some.injEq] at h
    subst h
    simp only [RelD] at hr
    obtain ⟨A, c, us, e, _⟩ := hr
    exact ⟨_, _, e⟩
  · rename_i id off len cap
    simp only [Option.some.injEq] at h
    subst h
    simp only [RelD] at hr
    cases hs : slot X.H id with
    | free => rw [hs] at hr; exact hr.elim
    | dead => rw [hs] at hr; obtain ⟨A, c, e, _⟩ := hr; exact ⟨_, _, e⟩
    | live r =>
      rw [hs] at hr
      cases r with
      | box ty cs => exact hr.elim
      | data e ty xs =>
        obtain ⟨_, A, c, e, _⟩ := hr
        exact ⟨_, _, e⟩
  · rename_i id len sz
    simp only [Option.some.injEq] at h
    subst h
    simp only [RelD] at hr
    cases hs : slot X.H id with
    | free => rw [hs] at hr; exact hr.elim
    | dead => rw [hs] at hr; obtain ⟨A, e⟩ := hr; exact ⟨_, _, e⟩
    | live r =>
      rw [hs] at hr
      cases r with
      | data _ _ _ => exact hr.elim
      | box ty cs =>
        obtain ⟨l, _, e⟩ := hr
        exact ⟨_, _, e⟩
  · cases h

theorem capD_rel {id off len k : Nat} {u : Value} (hr : RelD X (.own id off len (some k)) u) : ∃ A, u = .slice A len k := by
  simp only [RelD] at hr
  cases hs : slot X.H id with
  | free => rw [hs] at hr; exact hr.elim
  | dead => rw [hs] at hr; obtain ⟨A, c, e, hk⟩ := hr; rw [hk k rfl] at e; exact ⟨_, e⟩
  | live r =>
    rw [hs] at hr
    cases r with
    | box ty cs => exact hr.elim
    | data e ty xs =>
      obtain ⟨_, A, c, e, _, _, hk, _⟩ := hr
      rw [hk k rfl] at e
      exact ⟨_, e⟩

end
end Go.Proofs.YtnakmganodkliaaAm
