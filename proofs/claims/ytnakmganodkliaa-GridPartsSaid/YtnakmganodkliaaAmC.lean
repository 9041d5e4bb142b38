/- What single operations do: append in each of its ways, copy, clear. -/
import Derived.Test.YtnakmganodkliaaAmB
set_option linter.unusedVariables false
set_option linter.unusedSimpArgs false
namespace Go.Proofs.YtnakmganodkliaaAm
open Go

section
variable {P : Program} {b : Beg} {X : Ctx}

theorem hget_ne_free {H : Heap} {id nid : Nat} {r : Row} (h : hget H id = some r) (hf : slot H nid = .free) : nid ≠ id := by
  intro e
  subst e
  rw [hget_live] at h
  rw [hf] at h
  cases h

theorem s_append_nil (M : Mem b X) {nid : Nat} (hf : slot X.H nid = .free) (hl : nid < X.H.length) (hn : b.n ≤ nid) (rd : Nat → Option Row) (hrd : ∀ id r, rd id = some r → hget X.H id = some r)
    {t t' e e' oty : TypeId} {z : List D} (ht : P.underlying t = some (.slice e)) (ht' : P.underlying t' = some (.slice e')) (hz : zeroD P e = some z)
    {ty : Ty} (hsz : ty.size = P.cellsOf e) (h0 : ty.size ≠ 0) {x : D} {ys : List ty.El} {u : Value} (hx : (Ty.sl ty).ofCells rd [x] = some ys) (hu : RelD X x u) (hroom : roomy P e (List.length ys)) :
    ∃ v X', (Builtin.append_ #[t, t'] oty #[.slice none 0 0, u]).run P X.w = .ok v X'.w ∧ Mem b X' ∧ X'.H = X.H.set nid (.live (.data e ty ys)) ∧ Le X X' ∧ RelD X' (.own nid 0 (List.length ys) none) v := by
  obtain ⟨i, zv, hi, hz', hs, ho, rfl⟩ := zeroD_some hz
  have hsz' : ty.size = i.size := by rw [hsz]; simp [Program.cellsOf, hi]
  obtain ⟨A, c, us, e1, h2, h3, h4, h5⟩ := src_data M rd hrd hx hu
  subst e1
  cases ys with
  | nil =>
    simp only [Reps] at h4
    subst h4
    obtain ⟨M', L'⟩ := mem_virt M hf hl hn e ty
    refine ⟨.slice none 0 0, X.put nid (.live (.data e ty [])) none X.S X.w, run_append_none ht ht' hi X.w none A 0 0 c (Nat.le_refl _) ?_, M', rfl, L', ?_⟩
    · exact run_firstCells_at (us := []) (by simp) (fun _ => rfl) h5 X.w rfl
    · simp only [RelD]
      rw [slot_put X _ _ _ _ hl]
      exact ⟨by simp, none, 0, rfl, Nat.le_refl _, fun _ => rfl, by simp, by simp, .inl rfl⟩
  | cons y ys =>
    have := s_append_grow (oty := oty) (sLen := 0) (sCap := 0) (c2 := c) (xs := []) (us := []) M hf hl hn ht ht' hi hz' hsz' hs ho (A := none) (by simp [Reps]) h4 rfl (fun j u hj => by simp at hj) h5 (fun _ => rfl) h3 (by simp) (by simpa using hroom) h0
    simpa using this

theorem s_append_grow_kill (M : Mem b X) {nid : Nat} (hf : slot X.H nid = .free) (hl : nid < X.H.length) (hn : b.n ≤ nid)
    {t t' e e' oty : TypeId} {i : TypeInfo} {z : Value} (ht : P.underlying t = some (.slice e)) (ht' : P.underlying t' = some (.slice e')) (hi : P.info? e = some i) (hz : i.zero = some z)
    {ty : Ty} (hsz : ty.size = i.size) (hzs : z.cells.size = i.size) (hzo : ∀ u, u ∈ z.cells.toList → u.oneCell' = true)
    {A A2 : Option Addr} {sLen sCap c2 : Nat} {xs ys : List ty.El} {us vs : List Value} (hx : Reps (RelE X.S X.w ty) xs us) (hy : Reps (RelE X.S X.w ty) ys vs) (hxl : xs.length = sLen)
    (hAt : At (fun _ => True) X.w A us) (hAt2 : At (fun _ => True) X.w A2 vs) (hA : A = none → us = []) (hA2 : A2 = none → vs = [])
    (hg : sCap < sLen + ys.length) (hroom : roomy P e (sLen + ys.length)) (h0 : ty.size ≠ 0) {id : Nat} {r0 : Row} (hid : hget X.H id = some r0) :
    ∃ v X', (Builtin.append_ #[t, t'] oty #[.slice A sLen sCap, .slice A2 ys.length c2]).run P X.w = .ok v X'.w ∧ Mem b X' ∧ X'.H = (X.H.set nid (.live (.data e ty (xs ++ ys)))).set id .dead ∧ Le X X' ∧ RelD X' (.own nid 0 (sLen + ys.length) none) v := by
  obtain ⟨v, X1, hr, M1, hH1, L1, hv⟩ := s_append_grow (oty := oty) (c2 := c2) M hf hl hn ht ht' hi hz hsz hzs hzo hx hy hxl hAt hAt2 hA hA2 hg hroom h0
  have hne := hget_ne_free hid hf
  have hid1 : hget X1.H id = some r0 := by
    rw [hH1, hget_set, if_neg (fun h => hne h.1)]
    exact hid
  obtain ⟨M2, L2⟩ := mem_kill M1 hid1 X1.S (fun _ h => h) (fun _ h => .inl h)
  refine ⟨v, X1.put id .dead (X1.ρ id) X1.S X1.w, hr, M2, ?_, L1.trans L2, L2.d hv⟩
  show X1.H.set id .dead = _
  rw [hH1]

theorem s_append_own (M : Mem b X) {nid : Nat} (hf : slot X.H nid = .free) (hl : nid < X.H.length) (hn : b.n ≤ nid) (rd : Nat → Option Row) (hrd : ∀ id r, rd id = some r → hget X.H id = some r)
    {t t' e e' oty : TypeId} {z : List D} (ht : P.underlying t = some (.slice e)) (ht' : P.underlying t' = some (.slice e')) (hz : zeroD P e = some z)
    {ty : Ty} (hsz : ty.size = P.cellsOf e) (h0 : ty.size ≠ 0) {x : D} {ys : List ty.El} {u v0 : Value} (hx : (Ty.sl ty).ofCells rd [x] = some ys) (hu : RelD X x u)
    {id off len : Nat} {cap : Option Nat} {xs : List ty.El} (hid : hget X.H id = some (.data e ty xs)) (hs0 : RelD X (.own id off len cap) v0) (hroom : roomy P e (len + List.length ys)) :
    ∃ v X', (Builtin.append_ #[t, t'] oty #[v0, u]).run P X.w = .ok v X'.w ∧ Mem b X' ∧ X'.H = (X.H.set nid (.live (.data e ty ((xs.drop off).take len ++ ys)))).set id .dead ∧ Le X X' ∧ RelD X' (.own nid 0 (len + List.length ys) none) v := by
  obtain ⟨i, zv, hi, hz', hs, ho, rfl⟩ := zeroD_some hz
  have hsz' : ty.size = i.size := by rw [hsz]; simp [Program.cellsOf, hi]
  obtain ⟨A2, c2, vs, e2, h22, h23, h24, h25⟩ := src_data M rd hrd hx hu
  subst e2
  have hne := hget_ne_free hid hf
  have hs1 := hs0
  simp only [RelD] at hs1
  rw [hget_live.1 hid] at hs1
  obtain ⟨hlen, A, c, ev, hc, hA, hk, hk2, hplace⟩ := hs1
  have hcl : ((xs.drop off).take len).length = len := by simp; omega
  obtain ⟨A', c', us, ev', _, _, hreps, hat, hone⟩ := own_data (S' := fun _ => True) M (fun _ _ => trivial) hid (fun _ _ => trivial) hs0
  rw [ev] at ev'
  rw [hcl] at ev'
  simp only [Value.slice.injEq, true_and] at ev'
  obtain ⟨rfl, rfl⟩ := ev'
  subst ev
  by_cases hfit : len + List.length ys ≤ c
  · by_cases hc0 : c = 0
    · have hl0 : len = 0 := by omega
      have hy0 : ys = [] := List.eq_nil_of_length_eq_zero (by omega)
      subst hl0; subst hy0; subst hc0
      obtain ⟨M1, L1⟩ := mem_kill M hid X.S (fun _ h => h) (fun _ h => .inl h)
      have hf1 : slot (X.put id .dead (X.ρ id) X.S X.w).H nid = .free := by
        show slot (X.H.set id _) nid = _
        rw [slot_set, if_neg (fun h => hne h.1.symm)]
        exact hf
      have hl1 : nid < (X.put id .dead (X.ρ id) X.S X.w).H.length := by
        show nid < (X.H.set id _).length
        simpa using hl
      obtain ⟨M2, L2⟩ := mem_virt M1 hf1 hl1 hn e ty
      simp only [Reps] at h24
      subst h24
      refine ⟨.slice A 0 0, (X.put id .dead (X.ρ id) X.S X.w).put nid (.live (.data e ty [])) none X.S X.w, run_append_none ht ht' hi X.w A A2 0 0 c2 (Nat.le_refl _) ?_, M2, ?_, L1.trans L2, ?_⟩
      · exact run_firstCells_at (us := []) (by simp) (fun _ => rfl) h25 X.w rfl
      · show (X.H.set id _).set nid _ = _
        rw [List.set_comm _ _ hne.symm]
        simp
      · simp only [RelD]
        rw [slot_put _ _ _ _ _ hl1]
        exact ⟨by simp, A, 0, rfl, Nat.le_refl _, fun _ => rfl, by simp, by simp, .inl rfl⟩
    · obtain ⟨l, hl1, hA1, hbound⟩ := hplace.resolve_left hc0
      subst hA1
      have hrow := M.rows id _ hid
      rw [hl1] at hrow
      obtain ⟨acs, bt, hb, hacn, hbt, _⟩ := hrow
      have hul := reps_length hreps
      rw [hcl] at hul
      have hvl := reps_length h24
      have hfn := run_firstCells_at (P := P) (c := c2) (m := List.length ys) (size := i.size) (by rw [hvl, hsz']) h23 h25 X.w rfl
      have hmul : (len + List.length ys) * ty.size ≤ c * ty.size := Nat.mul_le_mul_right _ hfit
      rw [Nat.add_mul] at hmul hbound
      have hbig : (l.o + off * ty.size) + len * i.size + vs.length ≤ acs.size := by
        rw [hacn, hvl, ← hsz']
        omega
      have hrun := run_append_fit (ty := oty) ht ht' hi X.w l.b (l.o + off * ty.size) len c A2 (List.length ys) c2 acs bt hb (by rw [hvl, hsz']) hfn (reps_one h24) hfit hbig
      obtain ⟨M1, L1⟩ := mem_kill M hid X.S (fun _ h => h) (fun _ h => .inl h)
      have hf1 : slot (X.put id .dead (X.ρ id) X.S X.w).H nid = .free := by
        show slot (X.H.set id _) nid = _
        rw [slot_set, if_neg (fun h => hne h.1.symm)]
        exact hf
      have hln1 : nid < (X.put id .dead (X.ρ id) X.S X.w).H.length := by
        show nid < (X.H.set id _).length
        simpa using hl
      have hset := setRow_heap X.w l.b acs (acs.toList.take (l.o + off * ty.size + len * i.size) ++ vs ++ acs.toList.drop (l.o + off * ty.size + len * i.size + vs.length)).toArray bt (0, 0) hb
      have hcont : Content (X.put id .dead (X.ρ id) X.S X.w) (.data e ty ((xs.drop off).take len ++ ys)) ⟨l.b, l.o + off * ty.size, l.n⟩
          (acs.toList.take (l.o + off * ty.size + len * i.size) ++ vs ++ acs.toList.drop (l.o + off * ty.size + len * i.size + vs.length)).toArray bt := by
        refine ⟨?_, hbt, us ++ vs, hreps.append h24, ?_, ?_, ?_⟩
        · rw [← hacn]
          simp
          omega
        · intro w hw
          rcases List.mem_append.1 hw with h | h
          · exact hone w h
          · exact reps_one h24 w h
        · show l.o + off * ty.size + (us ++ vs).length ≤ l.n
          rw [List.length_append, hul, hvl]
          omega
        · intro j w hj
          show (List.toArray _)[l.o + off * ty.size + j]? = _
          simp only [List.getElem?_toArray]
          rw [list_splice _ _ _ (by rw [Array.length_toList]; omega)]
          rw [List.getElem?_append] at hj
          by_cases hju : j < us.length
          · rw [if_pos hju] at hj
            rw [if_pos (by rw [← hsz', ← hul]; omega)]
            obtain ⟨a, ea, _, hcell⟩ := hat j w hj
            cases ea
            rw [add_plain, cell_of_row _ _ _ _ _ _ hb] at hcell
            simpa using hcell
          · rw [if_neg hju] at hj
            have hjv : j - us.length < vs.length := (List.getElem?_eq_some_iff.1 hj).1
            rw [if_neg (by rw [← hsz', ← hul]; omega), if_pos (by rw [← hsz', ← hul]; omega), ← hj]
            congr 1
            rw [← hsz', ← hul]
            omega
      obtain ⟨M2, L2⟩ := mem_new M1 hf1 hln1 hn (.data e ty ((xs.drop off).take len ++ ys)) ⟨l.b, l.o + off * ty.size, l.n⟩ (X.w.setRow l.b (acs.toList.take (l.o + off * ty.size + len * i.size) ++ vs ++ acs.toList.drop (l.o + off * ty.size + len * i.size + vs.length)).toArray)
        rfl rfl rfl (by show X.w.heap.size ≤ _; simp) (fun k _ hk => setRow_other X.w l.b k _ hk)
        (fun j p hj hp e => by
          have hj' : hget (X.H.set id .dead) j ≠ none := hj
          rw [hget_set] at hj'
          by_cases hji : id = j ∧ id < X.H.length
          · rw [if_pos hji] at hj'; exact hj' rfl
          · rw [if_neg hji] at hj'
            rw [ctx_put_same] at hp
            have := M.inj j id p l hj' (by rw [hid]; simp) hp hl1 e
            exact hji ⟨this.symm, lt_of_slot (by rw [hget_live.1 hid]; simp)⟩)
        (M.sep id l (by rw [hid]; simp) hl1) (M.fresh id l (by rw [hid]; simp) hl1) _ bt hset hcont
      refine ⟨_, _, hrun, M2, ?_, L1.trans L2, ?_⟩
      · show (X.H.set id _).set nid _ = _
        rw [List.set_comm _ _ hne.symm]
      · simp only [RelD]
        rw [slot_put _ _ _ _ _ hln1]
        refine ⟨by simp only [List.length_append, hcl]; omega, _, c, rfl, hfit, by simp, by simp, fun _ => by simp only [List.length_append, hcl]; omega, .inr ⟨⟨l.b, l.o + off * ty.size, l.n⟩, by simp [Ctx.put], by simp, ?_⟩⟩
        simp only [Nat.zero_add]
        omega
  · obtain ⟨v, X', hr, M', hH, L', hv⟩ := s_append_grow_kill (oty := oty) (c2 := c2) M hf hl hn ht ht' hi hz' hsz' hs ho (A := A) (sCap := c) (sLen := len) hreps h24 hcl hat h25 (fun e => at_none hat e) h23 (by omega) hroom h0 hid
    exact ⟨v, X', hr, M', hH, L', hv⟩

/-- 'append' to a slice that has no room: the old row stays as it is. -/
theorem s_append_zero (M : Mem b X) {nid : Nat} (hf : slot X.H nid = .free) (hl : nid < X.H.length) (hn : b.n ≤ nid) (rd : Nat → Option Row) (hrd : ∀ id r, rd id = some r → hget X.H id = some r)
    {t t' e e' oty : TypeId} {z : List D} (ht : P.underlying t = some (.slice e)) (ht' : P.underlying t' = some (.slice e')) (hz : zeroD P e = some z)
    {ty : Ty} (hsz : ty.size = P.cellsOf e) (h0 : ty.size ≠ 0) {x : D} {ys : List ty.El} {u v0 : Value} (hx : (Ty.sl ty).ofCells rd [x] = some ys) (hu : RelD X x u)
    {id off len : Nat} {xs : List ty.El} (hid : hget X.H id = some (.data e ty xs)) (hs0 : RelD X (.own id off len (some 0)) v0) (hroom : roomy P e (len + List.length ys)) :
    ∃ v X', (Builtin.append_ #[t, t'] oty #[v0, u]).run P X.w = .ok v X'.w ∧ Mem b X' ∧ X'.H = X.H.set nid (.live (.data e ty ((xs.drop off).take len ++ ys))) ∧ Le X X' ∧ RelD X' (.own nid 0 (len + List.length ys) none) v := by
  obtain ⟨i, zv, hi, hz', hs, ho, rfl⟩ := zeroD_some hz
  have hsz' : ty.size = i.size := by rw [hsz]; simp [Program.cellsOf, hi]
  obtain ⟨A2, c2, vs, e2, h22, h23, h24, h25⟩ := src_data M rd hrd hx hu
  subst e2
  have hs1 := hs0
  simp only [RelD] at hs1
  rw [hget_live.1 hid] at hs1
  obtain ⟨hlen, A, c, ev, hc, hA, hk, hk2, hplace⟩ := hs1
  have hc0 := hk 0 rfl
  subst hc0
  have hl0 : len = 0 := by omega
  subst hl0
  subst ev
  cases ys with
  | nil =>
    simp only [Reps] at h24
    subst h24
    obtain ⟨M', L'⟩ := mem_virt M hf hl hn e ty
    refine ⟨.slice A 0 0, X.put nid (.live (.data e ty [])) none X.S X.w, run_append_none ht ht' hi X.w A A2 0 0 c2 (Nat.le_refl _) ?_, M', by simp; rfl, L', ?_⟩
    · exact run_firstCells_at (us := []) (by simp) (fun _ => rfl) h25 X.w rfl
    · simp only [RelD]
      rw [slot_put X _ _ _ _ hl]
      exact ⟨by simp, A, 0, rfl, Nat.le_refl _, fun _ => rfl, by simp, by simp, .inl rfl⟩
  | cons y ys =>
    have := s_append_grow (oty := oty) (sLen := 0) (sCap := 0) (c2 := c2) (xs := []) (us := []) M hf hl hn ht ht' hi hz' hsz' hs ho (A := A) (by simp [Reps]) h24 rfl (fun j u hj => by simp at hj) h25 (fun _ => rfl) h23 (by simp) (by simpa using hroom) h0
    simpa using this

end
end Go.Proofs.YtnakmganodkliaaAm
