/- What single operations do: copy, clear; numbers. -/
import Derived.Test.YtnakmganodkliaaAmC
import Derived.Laws.Cover3
set_option linter.unusedVariables false
set_option linter.unusedSimpArgs false
namespace Go.Proofs.YtnakmganodkliaaAm
open Go

section
variable {P : Program} {b : Beg} {X : Ctx}

theorem set_self {H : Heap} {id : Nat} {r : Row} (h : hget H id = some r) : H.set id (.live r) = H := by
  have hs := hget_live.1 h
  have hl : id < H.length := lt_of_slot (by rw [hs]; simp)
  apply List.ext_getElem?
  intro j
  rw [List.getElem?_set]
  split
  · rename_i e
    subst e
    unfold slot at hs
    rw [List.getD_eq_getElem?_getD, List.getElem?_eq_getElem hl] at hs
    rw [List.getElem?_eq_getElem hl]
    simpa using hs.symm
  · rfl

/-- Some elements of a row of the call's own are written over. -/
theorem s_put_elems (M : Mem b X) {id off : Nat} {e : TypeId} {ty : Ty} {xs zs : List ty.El} {ws : List Value} (hid : hget X.H id = some (.data e ty xs)) {l : Loc} (hl : X.ρ id = some l)
    (hz : Reps (RelE X.S X.w ty) zs ws) (hfit : off + zs.length ≤ xs.length) :
    ∃ X', (storeCells ⟨l.b, l.o + off * ty.size, none⟩ ws).run P X.w = .ok () X'.w ∧ Mem b X' ∧ X'.H = X.H.set id (.live (.data e ty (xs.take off ++ zs ++ xs.drop (off + zs.length)))) ∧ Le X X' := by
  have hrow := M.rows id _ hid
  rw [hl] at hrow
  obtain ⟨acs, bt, hb, hacn, he, us, hreps, hone, hbig, hacs⟩ := hrow
  have hul := reps_length hreps
  have hwl := reps_length hz
  have hmul : (off + zs.length) * ty.size ≤ xs.length * ty.size := Nat.mul_le_mul_right _ hfit
  rw [Nat.add_mul] at hmul
  have hnew : Reps (RelE X.S X.w ty) (xs.take off ++ zs ++ xs.drop (off + zs.length)) (us.take (off * ty.size) ++ ws ++ us.drop (off * ty.size + ws.length)) := by
    refine ((hreps.take (RelE_length ty) off).append hz).append ?_
    have := hreps.drop (RelE_length ty) (off + zs.length)
    rwa [Nat.add_mul, ← hwl] at this
  have hc' : Content X (.data e ty (xs.take off ++ zs ++ xs.drop (off + zs.length))) l (acs.toList.take (l.o + off * ty.size) ++ ws ++ acs.toList.drop (l.o + off * ty.size + ws.length)).toArray bt := by
    refine ⟨?_, he, _, hnew, ?_, ?_, ?_⟩
    · rw [← hacn]
      rw [← hacn] at hbig
      simp
      omega
    · exact reps_one hnew
    · have := reps_length hnew
      rw [this, List.length_append, List.length_append, List.length_take, List.length_drop]
      have h5 : min off xs.length + zs.length + (xs.length - (off + zs.length)) = xs.length := by omega
      rw [h5, ← hul]
      exact hbig
    · intro j w hj
      rw [list_splice _ _ _ (by omega)] at hj
      simp only [List.getElem?_toArray]
      have hacl : acs.toList.length = l.n := by simpa using hacn
      rw [list_splice _ _ _ (by show l.o + off * ty.size + ws.length ≤ acs.toList.length; omega)]
      by_cases c1 : j < off * ty.size
      · rw [if_pos c1] at hj
        rw [if_pos (by omega)]
        simpa using hacs _ _ hj
      · rw [if_neg c1] at hj
        rw [if_neg (by omega)]
        by_cases c2 : j < off * ty.size + ws.length
        · rw [if_pos c2] at hj
          rw [if_pos (by omega), ← hj]
          congr 1
          omega
        · rw [if_neg c2] at hj
          rw [if_neg (by omega)]
          simpa using hacs _ _ hj
  have hlen : (xs.take off ++ zs ++ xs.drop (off + zs.length)).length = xs.length := by simp; omega
  obtain ⟨X', hrun, M', hH, L', _⟩ := s_cells (P := P) M hid hl (r := .data e ty (xs.take off ++ zs ++ xs.drop (off + zs.length))) ⟨rfl, hlen⟩ hb (l.o + off * ty.size) ws (by rw [hacn]; omega) (reps_one hz) hc'
  exact ⟨X', hrun, M', hH, L'⟩

theorem at_take {S : Nat → Prop} {w : World} {A : Option Addr} {us : List Value} (h : At S w A us) (n : Nat) : At S w A (us.take n) := fun j u hj => by
  rw [List.getElem?_take] at hj
  split at hj
  · exact h j u hj
  · cases hj

theorem s_copy (M : Mem b X) (rd : Nat → Option Row) (hrd : ∀ id r, rd id = some r → hget X.H id = some r)
    {t t' e oty : TypeId} {i : TypeInfo} (ht : P.underlying t = some (.slice e)) (hi : P.info? e = some i)
    {ty : Ty} (hsz : ty.size = i.size) {x : D} {ys : List ty.El} {u v0 : Value} (hx : (Ty.sl ty).ofCells rd [x] = some ys) (hu : RelD X x u)
    {id off len : Nat} {cap : Option Nat} {xs : List ty.El} (hid : hget X.H id = some (.data e ty xs)) (hs0 : RelD X (.own id off len cap) v0) :
    ∃ X', (Builtin.copy_ #[t, t'] oty #[v0, u]).run P X.w = .ok (.int .i64 ((min (List.length ys) len : Nat) : Int)) X'.w ∧ Mem b X' ∧
      X'.H = X.H.set id (.live (.data e ty (xs.take off ++ ys.take (min (List.length ys) len) ++ xs.drop (off + min (List.length ys) len)))) ∧ Le X X' := by
  obtain ⟨A2, c2, vs, e2, h22, h23, h24, h25⟩ := src_data M rd hrd hx hu
  subst e2
  simp only [RelD] at hs0
  rw [hget_live.1 hid] at hs0
  obtain ⟨hlen, A, c, ev, hc, hA, hk, hk2, hplace⟩ := hs0
  subst ev
  have hvl := reps_length h24
  generalize hn : min (List.length ys) len = n
  have hn1 : n ≤ List.length ys := by omega
  have hn2 : n ≤ len := by omega
  have htl : (ys.take n).length = n := by simp; omega
  have hvt := h24.take (RelE_length ty) n
  have hfn := run_firstCells_at (P := P) (c := c2) (m := n) (size := i.size) (us := vs.take (n * ty.size)) (by
      have := reps_length hvt
      rw [this, htl, hsz]) (fun e => by rw [h23 e]; simp) (at_take h25 _) X.w rfl
  have hfn' : (Builtin.firstCells i.size n (.slice A2 (List.length ys) c2)).run P X.w = .ok (vs.take (n * ty.size)).toArray X.w := by
    cases A2 with
    | none => exact hfn
    | some a => exact hfn
  have hmin : Nat.min (List.length ys) len = n := hn
  by_cases hc0 : c = 0
  · have hn0 : n = 0 := by omega
    subst hn0
    refine ⟨X, ?_, M, ?_, Le.refl X⟩
    · cases A with
      | none => simp [Builtin.copy_, run_underlying ht, sizeOf, typeInfo, hi, Builtin.lenOf, hmin, hfn', goInt]
      | some a =>
        simp at hfn'
        simp [Builtin.copy_, run_underlying ht, sizeOf, typeInfo, hi, Builtin.lenOf, hmin, hfn', goInt, storeCells]
    · have : xs.take off ++ ys.take 0 ++ xs.drop (off + 0) = xs := by simp
      rw [this, set_self hid]
  · obtain ⟨l, hl1, hA1, hbound⟩ := hplace.resolve_left hc0
    subst hA1
    obtain ⟨X', hrun, M', hH, L'⟩ := s_put_elems (P := P) M (off := off) hid hl1 hvt (by rw [htl]; omega)
    rw [htl] at hH
    refine ⟨X', ?_, M', hH, L'⟩
    simp [Builtin.copy_, run_underlying ht, sizeOf, typeInfo, hi, Builtin.lenOf, hmin, hfn', goInt, hrun]

theorem zeroCells_list (z : Array Value) (s : Nat) (hs : z.size = s) (h0 : s ≠ 0) (n : Nat) : (Builtin.zeroCells z n).toList = (List.replicate n z.toList).flatten := by
  have := range_mod z.toList s (by simpa using hs) h0 n
  rw [← this, Builtin.zeroCells, hs]
  simp

theorem s_clear (M : Mem b X) (rd : Nat → Option Row) (hrd : ∀ id r, rd id = some r → hget X.H id = some r)
    {t e oty : TypeId} {z : List D} (ht : P.underlying t = some (.slice e)) (hz : zeroD P e = some z) {ty : Ty} (hsz : ty.size = P.cellsOf e) (h0 : ty.size ≠ 0) {y : ty.El} (hy : ty.ofCells rd z = some y) {v0 : Value}
    {id off len : Nat} {cap : Option Nat} {xs : List ty.El} (hid : hget X.H id = some (.data e ty xs)) (hs0 : RelD X (.own id off len cap) v0) :
    ∃ X', (Builtin.clear_ #[t] oty #[v0]).run P X.w = .ok (.tuple #[]) X'.w ∧ Mem b X' ∧ X'.H = X.H.set id (.live (.data e ty (xs.take off ++ List.replicate len y ++ xs.drop (off + len)))) ∧ Le X X' := by
  obtain ⟨i, zv, hi, hz', hs, ho, rfl⟩ := zeroD_some hz
  have hsz' : ty.size = i.size := by rw [hsz]; simp [Program.cellsOf, hi]
  have hE := (ofCells_rel M (fun _ h => h) rd hrd ty _ _ _ hy (relDs_v zv.cells.toList) (fun id hid => by
    rw [mem_killIds] at hid
    obtain ⟨_, _, _, hm⟩ := hid
    simp at hm)).1
  have hreps := Reps.replicate hE len
  simp only [RelD] at hs0
  rw [hget_live.1 hid] at hs0
  obtain ⟨hlen, A, c, ev, hc, hA, hk, hk2, hplace⟩ := hs0
  subst ev
  by_cases hc0 : len = 0
  · subst hc0
    refine ⟨X, ?_, M, ?_, Le.refl X⟩
    · cases A with
      | none => simp [Builtin.clear_, run_underlying ht]
      | some a => simp [Builtin.clear_, run_underlying ht]
    · have : xs.take off ++ List.replicate 0 y ++ xs.drop (off + 0) = xs := by simp
      rw [this, set_self hid]
  · obtain ⟨l, hl1, hA1, hbound⟩ := hplace.resolve_left (by omega)
    subst hA1
    obtain ⟨X', hrun, M', hH, L'⟩ := s_put_elems (P := P) M (off := off) hid hl1 hreps (by simp; omega)
    simp only [List.length_replicate] at hH
    refine ⟨X', ?_, M', hH, L'⟩
    have hzc := zeroCells_list zv.cells i.size hs (by rw [← hsz']; exact h0) len
    rw [← hzc] at hrun
    obtain ⟨m, rfl⟩ : ∃ m, len = m + 1 := ⟨len - 1, by omega⟩
    simp [Builtin.clear_, run_underlying ht, zeroValue, typeInfo, hi, hz', hrun]

theorem run_eqGuard_val (op : BinOp) (t : TypeId) (x y : Operand) {a c : Value} (ha : a.oneCell' = true) (hn : a ≠ .nilIface) (w : World) : (eqGuard op t x y a c).run P w = .ok () w := by
  unfold eqGuard
  cases a <;> simp_all [Value.oneCell'] <;> split <;> simp_all

theorem nilB_rel {d : D} {b : Bool} (h : nilB d = some b) {u : Value} (hr : RelD X d u) : ∃ A n c, u = .slice A n c ∧ A.isNone = b := by
  unfold nilB at h
  split at h
  · simp only [Option.some.injEq] at h
    subst h
    simp only [RelD] at hr
    exact ⟨_, _, _, hr, rfl⟩
  · simp only [Option.some.injEq] at h
    subst h
    simp only [RelD] at hr
    obtain ⟨A, c, us, e, _, _, h4, _⟩ := hr
    refine ⟨A, _, c, e, ?_⟩
    have := h4 trivial
    cases A with
    | none => exact absurd rfl this
    | some _ => rfl
  · cases h

theorem run_eqlB (t : TypeId) (a c : Bool) (h : P.underlying t = some .bool) (w : World) : (binOp .eql t (.bool a) (.bool c)).run P w = .ok (.bool (a == c)) w := by
  show (do pure (.bool (← Op.equal t (.bool a) (.bool c))) : Sem Value).run P w = _
  rw [Sem.run_bind, run_equal_bool w t a c h]
  rfl
theorem run_neqB (t : TypeId) (a c : Bool) (h : P.underlying t = some .bool) (w : World) : (binOp .neq t (.bool a) (.bool c)).run P w = .ok (.bool (!(a == c))) w := by
  show (do pure (.bool (!(← Op.equal t (.bool a) (.bool c)))) : Sem Value).run P w = _
  rw [Sem.run_bind, run_equal_bool w t a c h]
  rfl
theorem run_eqlS (t e : TypeId) (A : Option Addr) (n c : Nat) (h : P.underlying t = some (.slice e)) (w : World) : (binOp .eql t (.slice A n c) (.slice none 0 0)).run P w = .ok (.bool A.isNone) w := by
  show (do pure (.bool (← Op.equal t (.slice A n c) (.slice none 0 0))) : Sem Value).run P w = _
  rw [Sem.run_bind, run_equal_slice_nil w t e A n c h]
  rfl
theorem run_neqS (t e : TypeId) (A : Option Addr) (n c : Nat) (h : P.underlying t = some (.slice e)) (w : World) : (binOp .neq t (.slice A n c) (.slice none 0 0)).run P w = .ok (.bool (!A.isNone)) w := by
  show (do pure (.bool (!(← Op.equal t (.slice A n c) (.slice none 0 0)))) : Sem Value).run P w = _
  rw [Sem.run_bind, run_equal_slice_nil w t e A n c h]
  rfl

theorem s_eq {op : BinOp} {dx dy : D} {x y : Value} {t : TypeId} {v : Value} (h : eqD P op t dx dy = some v) (hx : RelD X dx x) (hy : RelD X dy y) (ox oy : Operand) :
    (do eqGuard op t ox oy x y; binOp op t x y : Sem Value).run P X.w = .ok v X.w := by
  unfold eqD at h
  split at h
  · rename_i a c hu
    simp only [RelD] at hx hy
    subst hx; subst hy
    simp only [Option.some.injEq] at h
    subst h
    rw [Sem.run_bind, run_eqGuard_val _ _ _ _ rfl (by simp)]
    exact run_eqlB t a c hu X.w
  · rename_i a c hu
    simp only [RelD] at hx hy
    subst hx; subst hy
    simp only [Option.some.injEq] at h
    subst h
    rw [Sem.run_bind, run_eqGuard_val _ _ _ _ rfl (by simp)]
    exact run_neqB t a c hu X.w
  · rename_i a c hu
    simp only [RelD] at hx hy
    subst hx; subst hy
    simp only [Option.some.injEq] at h
    subst h
    rw [Sem.run_bind, run_eqGuard_val _ _ _ _ rfl (by simp)]
    rfl
  · rename_i a c hu
    simp only [RelD] at hx hy
    subst hx; subst hy
    simp only [Option.some.injEq] at h
    subst h
    rw [Sem.run_bind, run_eqGuard_val _ _ _ _ rfl (by simp)]
    rfl
  · rename_i e hu
    simp only [RelD] at hy
    subst hy
    rw [Option.map_eq_some_iff] at h
    obtain ⟨b, hb, rfl⟩ := h
    obtain ⟨A, n, c, rfl, rfl⟩ := nilB_rel hb hx
    rw [Sem.run_bind, run_eqGuard_val _ _ _ _ rfl (by simp)]
    exact run_eqlS t e A n c hu X.w
  · rename_i e hu
    simp only [RelD] at hy
    subst hy
    rw [Option.map_eq_some_iff] at h
    obtain ⟨b, hb, rfl⟩ := h
    obtain ⟨A, n, c, rfl, rfl⟩ := nilB_rel hb hx
    rw [Sem.run_bind, run_eqGuard_val _ _ _ _ rfl (by simp)]
    exact run_neqS t e A n c hu X.w
  · cases h

theorem s_bin {op : BinOp} {dx dy : D} {x y : Value} {t : TypeId} {v : Value} {ps : List Prop} (h : binD op dx dy = some (v, ps)) (hx : RelD X dx x) (hy : RelD X dy y) (hps : ∀ p ∈ ps, p) (ox oy : Operand) :
    (do eqGuard op t ox oy x y; binOp op t x y : Sem Value).run P X.w = .ok v X.w := by
  unfold binD at h
  split at h
  · rename_i k a yk c
    simp only [RelD] at hx hy
    subst hx; subst hy
    simp only [Option.some.injEq, Prod.mk.injEq] at h
    obtain ⟨rfl, rfl⟩ := h
    have hb := hps _ (List.mem_singleton.2 rfl)
    rw [Sem.run_bind, run_eqGuard_val _ _ _ _ rfl (by simp)]
    simp [binOp, Op.shift, hb]
  · rename_i k a yk c
    simp only [RelD] at hx hy
    subst hx; subst hy
    simp only [Option.some.injEq, Prod.mk.injEq] at h
    obtain ⟨rfl, rfl⟩ := h
    have hb := hps _ (List.mem_singleton.2 rfl)
    rw [Sem.run_bind, run_eqGuard_val _ _ _ _ rfl (by simp)]
    simp [binOp, Op.shift, hb]
  · rename_i k a k' c h1 h2
    split at h
    · rename_i hk
      subst hk
      simp only [RelD] at hx hy
      subst hx; subst hy
      rw [Sem.run_bind, run_eqGuard_val _ _ _ _ rfl (by simp)]
      unfold binI at h
      cases op <;> simp at h
      all_goals first
        | (obtain ⟨rfl, rfl⟩ := h; simp [binOp, Op.intArith, Op.intCmp, Op.intBits]; done)
        | (obtain ⟨rfl, rfl⟩ := h; have hb := hps _ (List.mem_singleton.2 rfl); simp [binOp, Op.intDiv, hb]; done)
        | (obtain ⟨rfl, rfl⟩ := h; simp [binOp, Op.intArith, Op.intCmp, Op.intBits])
    · cases h
  · cases h

end
end Go.Proofs.YtnakmganodkliaaAm
