/- The logic, second part. -/
import Derived.Test.YtnakmganodkliaaDoorLa
import Derived.Laws.Cover3
import Derived.Orders
/- What single operations do: append, copy, clear on rows of the call's own. -/
set_option linter.unusedVariables false
set_option linter.unusedSimpArgs false
namespace Go.Proofs.YtnakmganodkliaaDoorAm
open Go

section
variable {P : Program} {b : Beg} {X : Ctx}

theorem at_none {S : Nat → Prop} {w : World} {A : Option Addr} {us : List Value} (h : At S w A us) (hA : A = none) : us = [] := by
  cases us with
  | nil => rfl
  | cons u us =>
    obtain ⟨a, e, _⟩ := h 0 u rfl
    rw [hA] at e
    cases e

theorem at_weaken {S : Nat → Prop} {w : World} {A : Option Addr} {us : List Value} (h : At S w A us) : At (fun _ => True) w A us := fun j u hj => by
  obtain ⟨a, e, _, hc⟩ := h j u hj
  exact ⟨a, e, trivial, hc⟩

/-- What is appended, or copied: its elements, and its cells. -/
theorem src_data (M : Mem b X) (rd : Nat → Option Row) (hrd : ∀ id r, rd id = some r → hget X.H id = some r) {ty : Ty} {d : D} {ys : List ty.El} {u : Value} (h : (Ty.sl ty).ofCells rd [d] = some ys) (hr : RelD X d u) :
    ∃ A c us, u = .slice A (List.length ys) c ∧ List.length ys ≤ c ∧ (A = none → us = []) ∧ Reps (RelE X.S X.w ty) ys us ∧ At (fun _ => True) X.w A us := by
  simp only [Ty.ofCells] at h
  unfold slC at h
  split at h
  · rename_i nn cl t' xs heq
    cases heq
    split at h
    · rename_i ht
      subst ht
      simp only [Option.some.injEq] at h
      subst h
      simp only [RelD] at hr
      obtain ⟨A, c, us', e1, h2, h3, _, _, h5, h6⟩ := hr
      exact ⟨A, c, us', e1, h2, fun e => at_none h6 e, h5, at_weaken h6⟩
    · cases h
  · rename_i heq
    cases heq
    simp only [Option.some.injEq] at h
    subst h
    simp only [RelD] at hr
    exact ⟨none, 0, [], hr, Nat.le_refl _, fun _ => rfl, rfl, fun j u hj => by simp at hj⟩
  · rename_i id off len cap heq
    cases heq
    obtain ⟨e, xs, hr1, hx⟩ := rowData_some h
    subst hx
    obtain ⟨A, c, us', e1, h2, h3, h4, h5, _⟩ := own_data (S' := fun _ => True) M (fun _ _ => trivial) (hrd _ _ hr1) (fun _ _ => trivial) hr
    exact ⟨A, c, us', e1, h2, fun e => at_none h5 e, h4, h5⟩
  · cases h

/-- The cells of an element, one by one, may each stand in a cell. -/
theorem relE_one {S : Nat → Prop} {w : World} : ∀ (t : Ty) (x : t.El) (us : List Value), RelE S w t x us → ∀ u, u ∈ us → u.oneCell' = true
  | .int _, _, us, h, u, hu => by rw [h] at hu; simp at hu; subst hu; rfl
  | .bool, _, us, h, u, hu => by rw [h] at hu; simp at hu; subst hu; rfl
  | .str, _, us, h, u, hu => by rw [h] at hu; simp at hu; subst hu; rfl
  | .sl t, xs, us, ⟨A, c, us', e, _⟩, u, hu => by rw [e] at hu; simp at hu; subst hu; rfl
  | .prod a b, x, us, ⟨u1, u2, e, h1, h2⟩, u, hu => by
    rw [e] at hu
    rcases List.mem_append.1 hu with h | h
    · exact relE_one a _ _ h1 u h
    · exact relE_one b _ _ h2 u h
  | .unit, _, us, h, u, hu => by rw [h] at hu; simp at hu

theorem reps_one {S : Nat → Prop} {w : World} {t : Ty} : ∀ {xs : List t.El} {us : List Value}, Reps (RelE S w t) xs us → ∀ u, u ∈ us → u.oneCell' = true
  | [], us, h, u, hu => by simp only [Reps] at h; subst h; simp at hu
  | x :: xs, us, ⟨u1, u2, e, h1, h2⟩, u, hu => by
    rw [e] at hu
    rcases List.mem_append.1 hu with h | h
    · exact relE_one t x u1 h1 u h
    · exact reps_one h2 u h

/-- 'append' where the result is a new row: the old one lies where it lay, or is not looked at any more. -/
theorem s_append_grow (M : Mem b X) {nid : Nat} (hf : slot X.H nid = .free) (hl : nid < X.H.length) (hn : b.n ≤ nid) {t t' e e' oty : TypeId} {i : TypeInfo} {z : Value} (ht : P.underlying t = some (.slice e)) (ht' : P.underlying t' = some (.slice e')) (hi : P.info? e = some i) (hz : i.zero = some z)
    {ty : Ty} (hsz : ty.size = i.size) (hzs : z.cells.size = i.size) (hzo : ∀ u, u ∈ z.cells.toList → u.oneCell' = true)
    {A A2 : Option Addr} {sLen sCap c2 : Nat} {xs ys : List ty.El} {us vs : List Value} (hx : Reps (RelE X.S X.w ty) xs us) (hy : Reps (RelE X.S X.w ty) ys vs) (hxl : xs.length = sLen)
    (hAt : At (fun _ => True) X.w A us) (hAt2 : At (fun _ => True) X.w A2 vs) (hA : A = none → us = []) (hA2 : A2 = none → vs = [])
    (hg : sCap < sLen + ys.length) (hroom : roomy P e (sLen + ys.length)) (h0 : ty.size ≠ 0) :
    ∃ v X', (Builtin.append_ #[t, t'] oty #[.slice A sLen sCap, .slice A2 ys.length c2]).run P X.w = .ok v X'.w ∧ Mem b X' ∧ X'.H = X.H.set nid (.live (.data e ty (xs ++ ys))) ∧ Le X X' ∧ RelD X' (.own nid 0 (sLen + ys.length) none) v := by
  have hul := reps_length hx
  have hvl := reps_length hy
  obtain ⟨hroom, hroom2⟩ := hroom
  have hby : P.bytesOf e = i.bytes := by simp [Program.bytesOf, hi]
  rw [hby] at hroom
  obtain ⟨M1, L1⟩ := mem_drew M (X.w.drawn + 1) rfl
  have h63 : ((sLen + ys.length : Nat) : Int) ≤ 9223372036854775807 := by omega
  have hfit := growslice_fits (old := sCap) (by omega : sCap < sLen + ys.length) hroom
  have hfo := run_firstCells_at (P := P) (c := sCap) (m := sLen) (size := i.size) (by rw [hul, hxl, hsz]) hA hAt X.w.drew rfl
  have hfn := run_firstCells_at (P := P) (c := c2) (m := ys.length) (size := i.size) (by rw [hvl, hsz]) hA2 hAt2 X.w.drew rfl
  have hr := run_append_more (ty := oty) ht ht' hi hz X.w A A2 sLen sCap ys.length c2 hfo hfn hg h63 hfit
  have hge := grownCap_ge X.w (sLen + ys.length) sCap e
  generalize grownCap X.w (sLen + ys.length) sCap e = nc at hr hge
  have hreps := hx.append hy
  have hreps' : Reps (RelE X.S X.w.drew ty) (xs ++ ys) (us ++ vs) := Reps_mono (fun x u h => RelE_mono (S := X.S) (w := X.w) (S' := X.S) (w' := X.w.drew) (fun k hk => ⟨hk, rfl⟩) ty x u h) _ _ hreps
  have hzl : (Builtin.zeroCells z.cells (nc - (sLen + ys.length))).toList.length = (nc - (sLen + ys.length)) * ty.size := by rw [Array.length_toList, size_zeroCells, hzs, hsz]
  have hsize : (us ++ vs ++ (Builtin.zeroCells z.cells (nc - (sLen + ys.length))).toList).toArray.size = nc * ty.size := by
    rw [List.size_toArray, List.length_append, List.length_append, hul, hvl, hzl, hxl, ← Nat.add_mul, ← Nat.add_mul]
    congr 1
    omega
  have hc : Content ⟨X.ρ, X.H, X.S, X.w.drew⟩ (.data e ty (xs ++ ys)) ⟨X.w.drew.heap.size, 0, (us ++ vs ++ (Builtin.zeroCells z.cells (nc - (sLen + ys.length))).toList).toArray.size⟩
      (us ++ vs ++ (Builtin.zeroCells z.cells (nc - (sLen + ys.length))).toList).toArray e := by
    refine ⟨rfl, rfl, us ++ vs, hreps', reps_one hreps, ?_, ?_⟩
    · simp
    · intro j u hj
      simp only [Nat.zero_add, List.getElem?_toArray]
      rw [List.getElem?_append_left]
      · exact hj
      · exact (List.getElem?_eq_some_iff.1 hj).1
  obtain ⟨M2, L2⟩ := mem_alloc M1 (id := nid) hf hl hn (.data e ty (xs ++ ys)) _ e hc
  refine ⟨_, _, hr, M2, rfl, L1.trans L2, ?_⟩
  exact relD_new (X := ⟨X.ρ, X.H, X.S, X.w.drew⟩) hl none (by simp; omega) hge (by simp) (fun _ => by simp; omega) _ (by rw [hsize]; exact Nat.le_refl _)

end
end Go.Proofs.YtnakmganodkliaaDoorAm

/- What single operations do: append in each of its ways, copy, clear. -/
set_option linter.unusedVariables false
set_option linter.unusedSimpArgs false
namespace Go.Proofs.YtnakmganodkliaaDoorAm
open Go

section
variable {P : Program} {b : Beg} {X : Ctx}

theorem hget_ne_free {H : Heap} {id nid : Nat} {r : Row} (h : hget H id = some r) (hf : slot H nid = .free) : nid ≠ id := by
  intro e
  subst e
  rw [hget_live] at h
  rw [hf] at h
  cases h

theorem s_append_nil (M : Mem b X) {nid : Nat} (hf : slot X.H nid = .free) (hl : nid < X.H.length) (hn : b.n ≤ nid) (rd : Nat → Option Row) (hrd : ∀ id r, rd id = some r → hget X.H id = some r)
    {t t' e e' oty : TypeId} {z : List D} (ht : P.underlying t = some (.slice e)) (ht' : P.underlying t' = some (.slice e')) (hz : zeroD P e = some z)
    {ty : Ty} (hsz : ty.size = P.cellsOf e) (h0 : ty.size ≠ 0) {x : D} {ys : List ty.El} {u : Value} (hx : (Ty.sl ty).ofCells rd [x] = some ys) (hu : RelD X x u) (hroom : roomy P e (List.length ys)) :
    ∃ v X', (Builtin.append_ #[t, t'] oty #[.slice none 0 0, u]).run P X.w = .ok v X'.w ∧ Mem b X' ∧ X'.H = X.H.set nid (.live (.data e ty ys)) ∧ Le X X' ∧ RelD X' (.own nid 0 (List.length ys) none) v := by
  obtain ⟨i, zv, hi, hz', hs, ho, rfl⟩ := zeroD_some hz
  have hsz' : ty.size = i.size := by rw [hsz]; simp [Program.cellsOf, hi]
  obtain ⟨A, c, us, e1, h2, h3, h4, h5⟩ := src_data M rd hrd hx hu
  subst e1
  cases ys with
  | nil =>
    simp only [Reps] at h4
    subst h4
    obtain ⟨M', L'⟩ := mem_virt M hf hl hn e ty
    refine ⟨.slice none 0 0, X.put nid (.live (.data e ty [])) none X.S X.w, run_append_none ht ht' hi X.w none A 0 0 c (Nat.le_refl _) ?_, M', rfl, L', ?_⟩
    · exact run_firstCells_at (us := []) (by simp) (fun _ => rfl) h5 X.w rfl
    · simp only [RelD]
      rw [slot_put X _ _ _ _ hl]
      exact ⟨by simp, none, 0, rfl, Nat.le_refl _, fun _ => rfl, by simp, by simp, .inl rfl⟩
  | cons y ys =>
    have := s_append_grow (oty := oty) (sLen := 0) (sCap := 0) (c2 := c) (xs := []) (us := []) M hf hl hn ht ht' hi hz' hsz' hs ho (A := none) (by simp [Reps]) h4 rfl (fun j u hj => by simp at hj) h5 (fun _ => rfl) h3 (by simp) (by simpa using hroom) h0
    simpa using this

theorem s_append_grow_kill (M : Mem b X) {nid : Nat} (hf : slot X.H nid = .free) (hl : nid < X.H.length) (hn : b.n ≤ nid)
    {t t' e e' oty : TypeId} {i : TypeInfo} {z : Value} (ht : P.underlying t = some (.slice e)) (ht' : P.underlying t' = some (.slice e')) (hi : P.info? e = some i) (hz : i.zero = some z)
    {ty : Ty} (hsz : ty.size = i.size) (hzs : z.cells.size = i.size) (hzo : ∀ u, u ∈ z.cells.toList → u.oneCell' = true)
    {A A2 : Option Addr} {sLen sCap c2 : Nat} {xs ys : List ty.El} {us vs : List Value} (hx : Reps (RelE X.S X.w ty) xs us) (hy : Reps (RelE X.S X.w ty) ys vs) (hxl : xs.length = sLen)
    (hAt : At (fun _ => True) X.w A us) (hAt2 : At (fun _ => True) X.w A2 vs) (hA : A = none → us = []) (hA2 : A2 = none → vs = [])
    (hg : sCap < sLen + ys.length) (hroom : roomy P e (sLen + ys.length)) (h0 : ty.size ≠ 0) {id : Nat} {r0 : Row} (hid : hget X.H id = some r0) :
    ∃ v X', (Builtin.append_ #[t, t'] oty #[.slice A sLen sCap, .slice A2 ys.length c2]).run P X.w = .ok v X'.w ∧ Mem b X' ∧ X'.H = (X.H.set nid (.live (.data e ty (xs ++ ys)))).set id .dead ∧ Le X X' ∧ RelD X' (.own nid 0 (sLen + ys.length) none) v := by
  obtain ⟨v, X1, hr, M1, hH1, L1, hv⟩ := s_append_grow (oty := oty) (c2 := c2) M hf hl hn ht ht' hi hz hsz hzs hzo hx hy hxl hAt hAt2 hA hA2 hg hroom h0
  have hne := hget_ne_free hid hf
  have hid1 : hget X1.H id = some r0 := by
    rw [hH1, hget_set, if_neg (fun h => hne h.1)]
    exact hid
  obtain ⟨M2, L2⟩ := mem_kill M1 hid1 X1.S (fun _ h => h) (fun _ h => .inl h)
  refine ⟨v, X1.put id .dead (X1.ρ id) X1.S X1.w, hr, M2, ?_, L1.trans L2, L2.d hv⟩
  show X1.H.set id .dead = _
  rw [hH1]

theorem s_append_own (M : Mem b X) {nid : Nat} (hf : slot X.H nid = .free) (hl : nid < X.H.length) (hn : b.n ≤ nid) (rd : Nat → Option Row) (hrd : ∀ id r, rd id = some r → hget X.H id = some r)
    {t t' e e' oty : TypeId} {z : List D} (ht : P.underlying t = some (.slice e)) (ht' : P.underlying t' = some (.slice e')) (hz : zeroD P e = some z)
    {ty : Ty} (hsz : ty.size = P.cellsOf e) (h0 : ty.size ≠ 0) {x : D} {ys : List ty.El} {u v0 : Value} (hx : (Ty.sl ty).ofCells rd [x] = some ys) (hu : RelD X x u)
    {id off len : Nat} {cap : Option Nat} {xs : List ty.El} (hid : hget X.H id = some (.data e ty xs)) (hs0 : RelD X (.own id off len cap) v0) (hroom : roomy P e (len + List.length ys)) :
    ∃ v X', (Builtin.append_ #[t, t'] oty #[v0, u]).run P X.w = .ok v X'.w ∧ Mem b X' ∧ X'.H = (X.H.set nid (.live (.data e ty ((xs.drop off).take len ++ ys)))).set id .dead ∧ Le X X' ∧ RelD X' (.own nid 0 (len + List.length ys) none) v := by
  obtain ⟨i, zv, hi, hz', hs, ho, rfl⟩ := zeroD_some hz
  have hsz' : ty.size = i.size := by rw [hsz]; simp [Program.cellsOf, hi]
  obtain ⟨A2, c2, vs, e2, h22, h23, h24, h25⟩ := src_data M rd hrd hx hu
  subst e2
  have hne := hget_ne_free hid hf
  have hs1 := hs0
  simp only [RelD] at hs1
  rw [hget_live.1 hid] at hs1
  obtain ⟨hlen, A, c, ev, hc, hA, hk, hk2, hplace⟩ := hs1
  have hcl : ((xs.drop off).take len).length = len := by simp; omega
  obtain ⟨A', c', us, ev', _, _, hreps, hat, hone⟩ := own_data (S' := fun _ => True) M (fun _ _ => trivial) hid (fun _ _ => trivial) hs0
  rw [ev] at ev'
  rw [hcl] at ev'
  simp only [Value.slice.injEq, true_and] at ev'
  obtain ⟨rfl, rfl⟩ := ev'
  subst ev
  by_cases hfit : len + List.length ys ≤ c
  · by_cases hc0 : c = 0
    · have hl0 : len = 0 := by omega
      have hy0 : ys = [] := List.eq_nil_of_length_eq_zero (by omega)
      subst hl0; subst hy0; subst hc0
      obtain ⟨M1, L1⟩ := mem_kill M hid X.S (fun _ h => h) (fun _ h => .inl h)
      have hf1 : slot (X.put id .dead (X.ρ id) X.S X.w).H nid = .free := by
        show slot (X.H.set id _) nid = _
        rw [slot_set, if_neg (fun h => hne h.1.symm)]
        exact hf
      have hl1 : nid < (X.put id .dead (X.ρ id) X.S X.w).H.length := by
        show nid < (X.H.set id _).length
        simpa using hl
      obtain ⟨M2, L2⟩ := mem_virt M1 hf1 hl1 hn e ty
      simp only [Reps] at h24
      subst h24
      refine ⟨.slice A 0 0, (X.put id .dead (X.ρ id) X.S X.w).put nid (.live (.data e ty [])) none X.S X.w, run_append_none ht ht' hi X.w A A2 0 0 c2 (Nat.le_refl _) ?_, M2, ?_, L1.trans L2, ?_⟩
      · exact run_firstCells_at (us := []) (by simp) (fun _ => rfl) h25 X.w rfl
      · show (X.H.set id _).set nid _ = _
        rw [List.set_comm _ _ hne.symm]
        simp
      · simp only [RelD]
        rw [slot_put _ _ _ _ _ hl1]
        exact ⟨by simp, A, 0, rfl, Nat.le_refl _, fun _ => rfl, by simp, by simp, .inl rfl⟩
    · obtain ⟨l, hl1, hA1, hbound⟩ := hplace.resolve_left hc0
      subst hA1
      have hrow := M.rows id _ hid
      rw [hl1] at hrow
      obtain ⟨acs, bt, hb, hacn, hbt, _⟩ := hrow
      have hul := reps_length hreps
      rw [hcl] at hul
      have hvl := reps_length h24
      have hfn := run_firstCells_at (P := P) (c := c2) (m := List.length ys) (size := i.size) (by rw [hvl, hsz']) h23 h25 X.w rfl
      have hmul : (len + List.length ys) * ty.size ≤ c * ty.size := Nat.mul_le_mul_right _ hfit
      rw [Nat.add_mul] at hmul hbound
      have hbig : (l.o + off * ty.size) + len * i.size + vs.length ≤ acs.size := by
        rw [hacn, hvl, ← hsz']
        omega
      have hrun := run_append_fit (ty := oty) ht ht' hi X.w l.b (l.o + off * ty.size) len c A2 (List.length ys) c2 acs bt hb (by rw [hvl, hsz']) hfn (reps_one h24) hfit hbig
      obtain ⟨M1, L1⟩ := mem_kill M hid X.S (fun _ h => h) (fun _ h => .inl h)
      have hf1 : slot (X.put id .dead (X.ρ id) X.S X.w).H nid = .free := by
        show slot (X.H.set id _) nid = _
        rw [slot_set, if_neg (fun h => hne h.1.symm)]
        exact hf
      have hln1 : nid < (X.put id .dead (X.ρ id) X.S X.w).H.length := by
        show nid < (X.H.set id _).length
        simpa using hl
      have hset := setRow_heap X.w l.b acs (acs.toList.take (l.o + off * ty.size + len * i.size) ++ vs ++ acs.toList.drop (l.o + off * ty.size + len * i.size + vs.length)).toArray bt (0, 0) hb
      have hcont : Content (X.put id .dead (X.ρ id) X.S X.w) (.data e ty ((xs.drop off).take len ++ ys)) ⟨l.b, l.o + off * ty.size, l.n⟩
          (acs.toList.take (l.o + off * ty.size + len * i.size) ++ vs ++ acs.toList.drop (l.o + off * ty.size + len * i.size + vs.length)).toArray bt := by
        refine ⟨?_, hbt, us ++ vs, hreps.append h24, ?_, ?_, ?_⟩
        · rw [← hacn]
          simp
          omega
        · intro w hw
          rcases List.mem_append.1 hw with h | h
          · exact hone w h
          · exact reps_one h24 w h
        · show l.o + off * ty.size + (us ++ vs).length ≤ l.n
          rw [List.length_append, hul, hvl]
          omega
        · intro j w hj
          show (List.toArray _)[l.o + off * ty.size + j]? = _
          simp only [List.getElem?_toArray]
          rw [list_splice _ _ _ (by rw [Array.length_toList]; omega)]
          rw [List.getElem?_append] at hj
          by_cases hju : j < us.length
          · rw [if_pos hju] at hj
            rw [if_pos (by rw [← hsz', ← hul]; omega)]
            obtain ⟨a, ea, _, hcell⟩ := hat j w hj
            cases ea
            rw [add_plain, cell_of_row _ _ _ _ _ _ hb] at hcell
            simpa using hcell
          · rw [if_neg hju] at hj
            have hjv : j - us.length < vs.length := (List.getElem?_eq_some_iff.1 hj).1
            rw [if_neg (by rw [← hsz', ← hul]; omega), if_pos (by rw [← hsz', ← hul]; omega), ← hj]
            congr 1
            rw [← hsz', ← hul]
            omega
      obtain ⟨M2, L2⟩ := mem_new M1 hf1 hln1 hn (.data e ty ((xs.drop off).take len ++ ys)) ⟨l.b, l.o + off * ty.size, l.n⟩ (X.w.setRow l.b (acs.toList.take (l.o + off * ty.size + len * i.size) ++ vs ++ acs.toList.drop (l.o + off * ty.size + len * i.size + vs.length)).toArray)
        rfl rfl rfl (by show X.w.heap.size ≤ _; simp) (fun k _ hk => setRow_other X.w l.b k _ hk)
        (fun j p hj hp e => by
          have hj' : hget (X.H.set id .dead) j ≠ none := hj
          rw [hget_set] at hj'
          by_cases hji : id = j ∧ id < X.H.length
          · rw [if_pos hji] at hj'; exact hj' rfl
          · rw [if_neg hji] at hj'
            rw [ctx_put_same] at hp
            have := M.inj j id p l hj' (by rw [hid]; simp) hp hl1 e
            exact hji ⟨this.symm, lt_of_slot (by rw [hget_live.1 hid]; simp)⟩)
        (M.sep id l (by rw [hid]; simp) hl1) (M.fresh id l (by rw [hid]; simp) hl1) _ bt hset hcont
      refine ⟨_, _, hrun, M2, ?_, L1.trans L2, ?_⟩
      · show (X.H.set id _).set nid _ = _
        rw [List.set_comm _ _ hne.symm]
      · simp only [RelD]
        rw [slot_put _ _ _ _ _ hln1]
        refine ⟨by simp only [List.length_append, hcl]; omega, _, c, rfl, hfit, by simp, by simp, fun _ => by simp only [List.length_append, hcl]; omega, .inr ⟨⟨l.b, l.o + off * ty.size, l.n⟩, by simp [Ctx.put], by simp, ?_⟩⟩
        simp only [Nat.zero_add]
        omega
  · obtain ⟨v, X', hr, M', hH, L', hv⟩ := s_append_grow_kill (oty := oty) (c2 := c2) M hf hl hn ht ht' hi hz' hsz' hs ho (A := A) (sCap := c) (sLen := len) hreps h24 hcl hat h25 (fun e => at_none hat e) h23 (by omega) hroom h0 hid
    exact ⟨v, X', hr, M', hH, L', hv⟩

/-- 'append' to a slice that has no room: the old row stays as it is. -/
theorem s_append_zero (M : Mem b X) {nid : Nat} (hf : slot X.H nid = .free) (hl : nid < X.H.length) (hn : b.n ≤ nid) (rd : Nat → Option Row) (hrd : ∀ id r, rd id = some r → hget X.H id = some r)
    {t t' e e' oty : TypeId} {z : List D} (ht : P.underlying t = some (.slice e)) (ht' : P.underlying t' = some (.slice e')) (hz : zeroD P e = some z)
    {ty : Ty} (hsz : ty.size = P.cellsOf e) (h0 : ty.size ≠ 0) {x : D} {ys : List ty.El} {u v0 : Value} (hx : (Ty.sl ty).ofCells rd [x] = some ys) (hu : RelD X x u)
    {id off len : Nat} {xs : List ty.El} (hid : hget X.H id = some (.data e ty xs)) (hs0 : RelD X (.own id off len (some 0)) v0) (hroom : roomy P e (len + List.length ys)) :
    ∃ v X', (Builtin.append_ #[t, t'] oty #[v0, u]).run P X.w = .ok v X'.w ∧ Mem b X' ∧ X'.H = X.H.set nid (.live (.data e ty ((xs.drop off).take len ++ ys))) ∧ Le X X' ∧ RelD X' (.own nid 0 (len + List.length ys) none) v := by
  obtain ⟨i, zv, hi, hz', hs, ho, rfl⟩ := zeroD_some hz
  have hsz' : ty.size = i.size := by rw [hsz]; simp [Program.cellsOf, hi]
  obtain ⟨A2, c2, vs, e2, h22, h23, h24, h25⟩ := src_data M rd hrd hx hu
  subst e2
  have hs1 := hs0
  simp only [RelD] at hs1
  rw [hget_live.1 hid] at hs1
  obtain ⟨hlen, A, c, ev, hc, hA, hk, hk2, hplace⟩ := hs1
  have hc0 := hk 0 rfl
  subst hc0
  have hl0 : len = 0 := by omega
  subst hl0
  subst ev
  cases ys with
  | nil =>
    simp only [Reps] at h24
    subst h24
    obtain ⟨M', L'⟩ := mem_virt M hf hl hn e ty
    refine ⟨.slice A 0 0, X.put nid (.live (.data e ty [])) none X.S X.w, run_append_none ht ht' hi X.w A A2 0 0 c2 (Nat.le_refl _) ?_, M', by simp; rfl, L', ?_⟩
    · exact run_firstCells_at (us := []) (by simp) (fun _ => rfl) h25 X.w rfl
    · simp only [RelD]
      rw [slot_put X _ _ _ _ hl]
      exact ⟨by simp, A, 0, rfl, Nat.le_refl _, fun _ => rfl, by simp, by simp, .inl rfl⟩
  | cons y ys =>
    have := s_append_grow (oty := oty) (sLen := 0) (sCap := 0) (c2 := c2) (xs := []) (us := []) M hf hl hn ht ht' hi hz' hsz' hs ho (A := A) (by simp [Reps]) h24 rfl (fun j u hj => by simp at hj) h25 (fun _ => rfl) h23 (by simp) (by simpa using hroom) h0
    simpa using this

end
end Go.Proofs.YtnakmganodkliaaDoorAm

/- What single operations do: copy, clear; numbers. -/
set_option linter.unusedVariables false
set_option linter.unusedSimpArgs false
namespace Go.Proofs.YtnakmganodkliaaDoorAm
open Go

section
variable {P : Program} {b : Beg} {X : Ctx}

theorem set_self {H : Heap} {id : Nat} {r : Row} (h : hget H id = some r) : H.set id (.live r) = H := by
  have hs := hget_live.1 h
  have hl : id < H.length := lt_of_slot (by rw [hs]; simp)
  apply List.ext_getElem?
  intro j
  rw [List.getElem?_set]
  split
  · rename_i e
    subst e
    unfold slot at hs
    rw [List.getD_eq_getElem?_getD, List.getElem?_eq_getElem hl] at hs
    rw [List.getElem?_eq_getElem hl]
    simpa using hs.symm
  · rfl

/-- Some elements of a row of the call's own are written over. -/
theorem s_put_elems (M : Mem b X) {id off : Nat} {e : TypeId} {ty : Ty} {xs zs : List ty.El} {ws : List Value} (hid : hget X.H id = some (.data e ty xs)) {l : Loc} (hl : X.ρ id = some l)
    (hz : Reps (RelE X.S X.w ty) zs ws) (hfit : off + zs.length ≤ xs.length) :
    ∃ X', (storeCells ⟨l.b, l.o + off * ty.size, none⟩ ws).run P X.w = .ok () X'.w ∧ Mem b X' ∧ X'.H = X.H.set id (.live (.data e ty (xs.take off ++ zs ++ xs.drop (off + zs.length)))) ∧ Le X X' := by
  have hrow := M.rows id _ hid
  rw [hl] at hrow
  obtain ⟨acs, bt, hb, hacn, he, us, hreps, hone, hbig, hacs⟩ := hrow
  have hul := reps_length hreps
  have hwl := reps_length hz
  have hmul : (off + zs.length) * ty.size ≤ xs.length * ty.size := Nat.mul_le_mul_right _ hfit
  rw [Nat.add_mul] at hmul
  have hnew : Reps (RelE X.S X.w ty) (xs.take off ++ zs ++ xs.drop (off + zs.length)) (us.take (off * ty.size) ++ ws ++ us.drop (off * ty.size + ws.length)) := by
    refine ((hreps.take (RelE_length ty) off).append hz).append ?_
    have := hreps.drop (RelE_length ty) (off + zs.length)
    rwa [Nat.add_mul, ← hwl] at this
  have hc' : Content X (.data e ty (xs.take off ++ zs ++ xs.drop (off + zs.length))) l (acs.toList.take (l.o + off * ty.size) ++ ws ++ acs.toList.drop (l.o + off * ty.size + ws.length)).toArray bt := by
    refine ⟨?_, he, _, hnew, ?_, ?_, ?_⟩
    · rw [← hacn]
      rw [← hacn] at hbig
      simp
      omega
    · exact reps_one hnew
    · have := reps_length hnew
      rw [this, List.length_append, List.length_append, List.length_take, List.length_drop]
      have h5 : min off xs.length + zs.length + (xs.length - (off + zs.length)) = xs.length := by omega
      rw [h5, ← hul]
      exact hbig
    · intro j w hj
      rw [list_splice _ _ _ (by omega)] at hj
      simp only [List.getElem?_toArray]
      have hacl : acs.toList.length = l.n := by simpa using hacn
      rw [list_splice _ _ _ (by show l.o + off * ty.size + ws.length ≤ acs.toList.length; omega)]
      by_cases c1 : j < off * ty.size
      · rw [if_pos c1] at hj
        rw [if_pos (by omega)]
        simpa using hacs _ _ hj
      · rw [if_neg c1] at hj
        rw [if_neg (by omega)]
        by_cases c2 : j < off * ty.size + ws.length
        · rw [if_pos c2] at hj
          rw [if_pos (by omega), ← hj]
          congr 1
          omega
        · rw [if_neg c2] at hj
          rw [if_neg (by omega)]
          simpa using hacs _ _ hj
  have hlen : (xs.take off ++ zs ++ xs.drop (off + zs.length)).length = xs.length := by simp; omega
  obtain ⟨X', hrun, M', hH, L', _⟩ := s_cells (P := P) M hid hl (r := .data e ty (xs.take off ++ zs ++ xs.drop (off + zs.length))) ⟨rfl, hlen⟩ hb (l.o + off * ty.size) ws (by rw [hacn]; omega) (reps_one hz) hc'
  exact ⟨X', hrun, M', hH, L'⟩

theorem at_take {S : Nat → Prop} {w : World} {A : Option Addr} {us : List Value} (h : At S w A us) (n : Nat) : At S w A (us.take n) := fun j u hj => by
  rw [List.getElem?_take] at hj
  split at hj
  · exact h j u hj
  · cases hj

theorem s_copy (M : Mem b X) (rd : Nat → Option Row) (hrd : ∀ id r, rd id = some r → hget X.H id = some r)
    {t t' e oty : TypeId} {i : TypeInfo} (ht : P.underlying t = some (.slice e)) (hi : P.info? e = some i)
    {ty : Ty} (hsz : ty.size = i.size) {x : D} {ys : List ty.El} {u v0 : Value} (hx : (Ty.sl ty).ofCells rd [x] = some ys) (hu : RelD X x u)
    {id off len : Nat} {cap : Option Nat} {xs : List ty.El} (hid : hget X.H id = some (.data e ty xs)) (hs0 : RelD X (.own id off len cap) v0) :
    ∃ X', (Builtin.copy_ #[t, t'] oty #[v0, u]).run P X.w = .ok (.int .i64 ((min (List.length ys) len : Nat) : Int)) X'.w ∧ Mem b X' ∧
      X'.H = X.H.set id (.live (.data e ty (xs.take off ++ ys.take (min (List.length ys) len) ++ xs.drop (off + min (List.length ys) len)))) ∧ Le X X' := by
  obtain ⟨A2, c2, vs, e2, h22, h23, h24, h25⟩ := src_data M rd hrd hx hu
  subst e2
  simp only [RelD] at hs0
  rw [hget_live.1 hid] at hs0
  obtain ⟨hlen, A, c, ev, hc, hA, hk, hk2, hplace⟩ := hs0
  subst ev
  have hvl := reps_length h24
  generalize hn : min (List.length ys) len = n
  have hn1 : n ≤ List.length ys := by omega
  have hn2 : n ≤ len := by omega
  have htl : (ys.take n).length = n := by simp; omega
  have hvt := h24.take (RelE_length ty) n
  have hfn := run_firstCells_at (P := P) (c := c2) (m := n) (size := i.size) (us := vs.take (n * ty.size)) (by
      have := reps_length hvt
      rw [this, htl, hsz]) (fun e => by rw [h23 e]; simp) (at_take h25 _) X.w rfl
  have hfn' : (Builtin.firstCells i.size n (.slice A2 (List.length ys) c2)).run P X.w = .ok (vs.take (n * ty.size)).toArray X.w := by
    cases A2 with
    | none => exact hfn
    | some a => exact hfn
  have hmin : Nat.min (List.length ys) len = n := hn
  by_cases hc0 : c = 0
  · have hn0 : n = 0 := by omega
    subst hn0
    refine ⟨X, ?_, M, ?_, Le.refl X⟩
    · cases A with
      | none => simp [Builtin.copy_, run_underlying ht, sizeOf, typeInfo, hi, Builtin.lenOf, hmin, hfn', goInt]
      | some a =>
        simp at hfn'
        simp [Builtin.copy_, run_underlying ht, sizeOf, typeInfo, hi, Builtin.lenOf, hmin, hfn', goInt, storeCells]
    · have : xs.take off ++ ys.take 0 ++ xs.drop (off + 0) = xs := by simp
      rw [this, set_self hid]
  · obtain ⟨l, hl1, hA1, hbound⟩ := hplace.resolve_left hc0
    subst hA1
    obtain ⟨X', hrun, M', hH, L'⟩ := s_put_elems (P := P) M (off := off) hid hl1 hvt (by rw [htl]; omega)
    rw [htl] at hH
    refine ⟨X', ?_, M', hH, L'⟩
    simp [Builtin.copy_, run_underlying ht, sizeOf, typeInfo, hi, Builtin.lenOf, hmin, hfn', goInt, hrun]

theorem zeroCells_list (z : Array Value) (s : Nat) (hs : z.size = s) (h0 : s ≠ 0) (n : Nat) : (Builtin.zeroCells z n).toList = (List.replicate n z.toList).flatten := by
  have := range_mod z.toList s (by simpa using hs) h0 n
  rw [← this, Builtin.zeroCells, hs]
  simp

theorem s_clear (M : Mem b X) (rd : Nat → Option Row) (hrd : ∀ id r, rd id = some r → hget X.H id = some r)
    {t e oty : TypeId} {z : List D} (ht : P.underlying t = some (.slice e)) (hz : zeroD P e = some z) {ty : Ty} (hsz : ty.size = P.cellsOf e) (h0 : ty.size ≠ 0) {y : ty.El} (hy : ty.ofCells rd z = some y) {v0 : Value}
    {id off len : Nat} {cap : Option Nat} {xs : List ty.El} (hid : hget X.H id = some (.data e ty xs)) (hs0 : RelD X (.own id off len cap) v0) :
    ∃ X', (Builtin.clear_ #[t] oty #[v0]).run P X.w = .ok (.tuple #[]) X'.w ∧ Mem b X' ∧ X'.H = X.H.set id (.live (.data e ty (xs.take off ++ List.replicate len y ++ xs.drop (off + len)))) ∧ Le X X' := by
  obtain ⟨i, zv, hi, hz', hs, ho, rfl⟩ := zeroD_some hz
  have hsz' : ty.size = i.size := by rw [hsz]; simp [Program.cellsOf, hi]
  have hE := (ofCells_rel M (fun _ h => h) rd hrd ty _ _ _ hy (relDs_v zv.cells.toList) (fun id hid => by
    rw [mem_killIds] at hid
    obtain ⟨_, _, _, hm⟩ := hid
    simp at hm)).1
  have hreps := Reps.replicate hE len
  simp only [RelD] at hs0
  rw [hget_live.1 hid] at hs0
  obtain ⟨hlen, A, c, ev, hc, hA, hk, hk2, hplace⟩ := hs0
  subst ev
  by_cases hc0 : len = 0
  · subst hc0
    refine ⟨X, ?_, M, ?_, Le.refl X⟩
    · cases A with
      | none => simp [Builtin.clear_, run_underlying ht]
      | some a => simp [Builtin.clear_, run_underlying ht]
    · have : xs.take off ++ List.replicate 0 y ++ xs.drop (off + 0) = xs := by simp
      rw [this, set_self hid]
  · obtain ⟨l, hl1, hA1, hbound⟩ := hplace.resolve_left (by omega)
    subst hA1
    obtain ⟨X', hrun, M', hH, L'⟩ := s_put_elems (P := P) M (off := off) hid hl1 hreps (by simp; omega)
    simp only [List.length_replicate] at hH
    refine ⟨X', ?_, M', hH, L'⟩
    have hzc := zeroCells_list zv.cells i.size hs (by rw [← hsz']; exact h0) len
    rw [← hzc] at hrun
    obtain ⟨m, rfl⟩ : ∃ m, len = m + 1 := ⟨len - 1, by omega⟩
    simp [Builtin.clear_, run_underlying ht, zeroValue, typeInfo, hi, hz', hrun]

theorem run_eqGuard_val (op : BinOp) (t : TypeId) (x y : Operand) {a c : Value} (ha : a.oneCell' = true) (hn : a ≠ .nilIface) (w : World) : (eqGuard op t x y a c).run P w = .ok () w := by
  unfold eqGuard
  cases a <;> simp_all [Value.oneCell'] <;> split <;> simp_all

theorem nilB_rel {d : D} {b : Bool} (h : nilB d = some b) {u : Value} (hr : RelD X d u) : ∃ A n c, u = .slice A n c ∧ A.isNone = b := by
  unfold nilB at h
  split at h
  · simp only [Option.some.injEq] at h
    subst h
    simp only [RelD] at hr
    exact ⟨_, _, _, hr, rfl⟩
  · simp only [Option.some.injEq] at h
    subst h
    simp only [RelD] at hr
    obtain ⟨A, c, us, e, _, _, h4, _⟩ := hr
    refine ⟨A, _, c, e, ?_⟩
    have := h4 trivial
    cases A with
    | none => exact absurd rfl this
    | some _ => rfl
  · cases h

theorem run_eqlB (t : TypeId) (a c : Bool) (h : P.underlying t = some .bool) (w : World) : (binOp .eql t (.bool a) (.bool c)).run P w = .ok (.bool (a == c)) w := by
  show (do pure (.bool (← Op.equal t (.bool a) (.bool c))) : Sem Value).run P w = _
  rw [Sem.run_bind, run_equal_bool w t a c h]
  rfl
theorem run_neqB (t : TypeId) (a c : Bool) (h : P.underlying t = some .bool) (w : World) : (binOp .neq t (.bool a) (.bool c)).run P w = .ok (.bool (!(a == c))) w := by
  show (do pure (.bool (!(← Op.equal t (.bool a) (.bool c)))) : Sem Value).run P w = _
  rw [Sem.run_bind, run_equal_bool w t a c h]
  rfl
theorem run_eqlS (t e : TypeId) (A : Option Addr) (n c : Nat) (h : P.underlying t = some (.slice e)) (w : World) : (binOp .eql t (.slice A n c) (.slice none 0 0)).run P w = .ok (.bool A.isNone) w := by
  show (do pure (.bool (← Op.equal t (.slice A n c) (.slice none 0 0))) : Sem Value).run P w = _
  rw [Sem.run_bind, run_equal_slice_nil w t e A n c h]
  rfl
theorem run_neqS (t e : TypeId) (A : Option Addr) (n c : Nat) (h : P.underlying t = some (.slice e)) (w : World) : (binOp .neq t (.slice A n c) (.slice none 0 0)).run P w = .ok (.bool (!A.isNone)) w := by
  show (do pure (.bool (!(← Op.equal t (.slice A n c) (.slice none 0 0)))) : Sem Value).run P w = _
  rw [Sem.run_bind, run_equal_slice_nil w t e A n c h]
  rfl

theorem s_eq {op : BinOp} {dx dy : D} {x y : Value} {t : TypeId} {v : Value} (h : eqD P op t dx dy = some v) (hx : RelD X dx x) (hy : RelD X dy y) (ox oy : Operand) :
    (do eqGuard op t ox oy x y; binOp op t x y : Sem Value).run P X.w = .ok v X.w := by
  unfold eqD at h
  split at h
  · rename_i a c hu
    simp only [RelD] at hx hy
    subst hx; subst hy
    simp only [Option.some.injEq] at h
    subst h
    rw [Sem.run_bind, run_eqGuard_val _ _ _ _ rfl (by simp)]
    exact run_eqlB t a c hu X.w
  · rename_i a c hu
    simp only [RelD] at hx hy
    subst hx; subst hy
    simp only [Option.some.injEq] at h
    subst h
    rw [Sem.run_bind, run_eqGuard_val _ _ _ _ rfl (by simp)]
    exact run_neqB t a c hu X.w
  · rename_i a c hu
    simp only [RelD] at hx hy
    subst hx; subst hy
    simp only [Option.some.injEq] at h
    subst h
    rw [Sem.run_bind, run_eqGuard_val _ _ _ _ rfl (by simp)]
    rfl
  · rename_i a c hu
    simp only [RelD] at hx hy
    subst hx; subst hy
    simp only [Option.some.injEq] at h
    subst h
    rw [Sem.run_bind, run_eqGuard_val _ _ _ _ rfl (by simp)]
    rfl
  · rename_i e hu
    simp only [RelD] at hy
    subst hy
    rw [Option.map_eq_some_iff] at h
    obtain ⟨b, hb, rfl⟩ := h
    obtain ⟨A, n, c, rfl, rfl⟩ := nilB_rel hb hx
    rw [Sem.run_bind, run_eqGuard_val _ _ _ _ rfl (by simp)]
    exact run_eqlS t e A n c hu X.w
  · rename_i e hu
    simp only [RelD] at hy
    subst hy
    rw [Option.map_eq_some_iff] at h
    obtain ⟨b, hb, rfl⟩ := h
    obtain ⟨A, n, c, rfl, rfl⟩ := nilB_rel hb hx
    rw [Sem.run_bind, run_eqGuard_val _ _ _ _ rfl (by simp)]
    exact run_neqS t e A n c hu X.w
  · cases h

theorem s_bin {op : BinOp} {dx dy : D} {x y : Value} {t : TypeId} {v : Value} {ps : List Prop} (h : binD op dx dy = some (v, ps)) (hx : RelD X dx x) (hy : RelD X dy y) (hps : ∀ p ∈ ps, p) (ox oy : Operand) :
    (do eqGuard op t ox oy x y; binOp op t x y : Sem Value).run P X.w = .ok v X.w := by
  unfold binD at h
  split at h
  · rename_i k a yk c
    simp only [RelD] at hx hy
    subst hx; subst hy
    simp only [Option.some.injEq, Prod.mk.injEq] at h
    obtain ⟨rfl, rfl⟩ := h
    have hb := hps _ (List.mem_singleton.2 rfl)
    rw [Sem.run_bind, run_eqGuard_val _ _ _ _ rfl (by simp)]
    simp [binOp, Op.shift, hb]
  · rename_i k a yk c
    simp only [RelD] at hx hy
    subst hx; subst hy
    simp only [Option.some.injEq, Prod.mk.injEq] at h
    obtain ⟨rfl, rfl⟩ := h
    have hb := hps _ (List.mem_singleton.2 rfl)
    rw [Sem.run_bind, run_eqGuard_val _ _ _ _ rfl (by simp)]
    simp [binOp, Op.shift, hb]
  · rename_i a c
    simp only [RelD] at hx hy
    subst hx; subst hy
    simp only [Option.some.injEq, Prod.mk.injEq] at h
    obtain ⟨rfl, rfl⟩ := h
    have hb := hps _ (List.mem_singleton.2 rfl)
    rw [Sem.run_bind, run_eqGuard_val _ _ _ _ rfl (by simp)]
    simp only [binOp, Op.stringOp, if_neg hb]
    rfl
  · rename_i k a k' c h1 h2
    split at h
    · rename_i hk
      subst hk
      simp only [RelD] at hx hy
      subst hx; subst hy
      rw [Sem.run_bind, run_eqGuard_val _ _ _ _ rfl (by simp)]
      unfold binI at h
      cases op <;> simp at h
      all_goals first
        | (obtain ⟨rfl, rfl⟩ := h; simp [binOp, Op.intArith, Op.intCmp, Op.intBits]; done)
        | (obtain ⟨rfl, rfl⟩ := h; have hb := hps _ (List.mem_singleton.2 rfl); simp [binOp, Op.intDiv, hb]; done)
        | (obtain ⟨rfl, rfl⟩ := h; simp [binOp, Op.intArith, Op.intCmp, Op.intBits])
    · cases h
  · cases h

end
end Go.Proofs.YtnakmganodkliaaDoorAm

/- One operation does what is computed of it: all but calls of functions. -/
set_option linter.unusedVariables false
set_option linter.unusedSimpArgs false
namespace Go.Proofs.YtnakmganodkliaaDoorAm
open Go

section
variable {P : Program} {b : Beg} {X : Ctx}

theorem s_append_closed (M : Mem b X) {nid : Nat} (hf : slot X.H nid = .free) (hl : nid < X.H.length) (hn : b.n ≤ nid) (rd : Nat → Option Row) (hrd : ∀ id r, rd id = some r → hget X.H id = some r)
    {t t' e e' oty : TypeId} {z : List D} (ht : P.underlying t = some (.slice e)) (ht' : P.underlying t' = some (.slice e')) (hz : zeroD P e = some z)
    {ty : Ty} (hsz : ty.size = P.cellsOf e) (h0 : ty.size ≠ 0) {x : D} {ys : List ty.El} {u v0 : Value} (hx : (Ty.sl ty).ofCells rd [x] = some ys) (hu : RelD X x u)
    {nn : Bool} (hs0 : RelD X (.sl nn true ty []) v0) (hroom : roomy P e (List.length ys)) :
    ∃ v X', (Builtin.append_ #[t, t'] oty #[v0, u]).run P X.w = .ok v X'.w ∧ Mem b X' ∧ X'.H = X.H.set nid (.live (.data e ty ys)) ∧ Le X X' ∧ RelD X' (.own nid 0 (List.length ys) none) v := by
  obtain ⟨i, zv, hi, hz', hs, ho, rfl⟩ := zeroD_some hz
  have hsz' : ty.size = i.size := by rw [hsz]; simp [Program.cellsOf, hi]
  obtain ⟨A2, c2, vs, e2, h22, h23, h24, h25⟩ := src_data M rd hrd hx hu
  subst e2
  simp only [RelD] at hs0
  obtain ⟨A, c, us, ev, hc, hA, _, hk, hr0, hat⟩ := hs0
  have hc0 : c = 0 := by simpa using hk trivial
  subst hc0
  subst ev
  simp only [Reps] at hr0
  subst hr0
  cases ys with
  | nil =>
    simp only [Reps] at h24
    subst h24
    obtain ⟨M', L'⟩ := mem_virt M hf hl hn e ty
    refine ⟨.slice A 0 0, X.put nid (.live (.data e ty [])) none X.S X.w, run_append_none ht ht' hi X.w A A2 0 0 c2 (Nat.le_refl _) ?_, M', rfl, L', ?_⟩
    · exact run_firstCells_at (us := []) (by simp) (fun _ => rfl) h25 X.w rfl
    · simp only [RelD]
      rw [slot_put X _ _ _ _ hl]
      exact ⟨by simp, A, 0, rfl, Nat.le_refl _, fun _ => rfl, by simp, by simp, .inl rfl⟩
  | cons y ys =>
    have := s_append_grow (oty := oty) (sLen := 0) (sCap := 0) (c2 := c2) (xs := []) (us := []) M hf hl hn ht ht' hi hz' hsz' hs ho (A := A) (by simp [Reps]) h24 rfl (fun j u hj => by simp at hj) h25 (fun _ => rfl) h23 (by simp) (by simpa using hroom) h0
    simpa using this

/-- The machine does what was computed of the operation. -/
def Step (P : Program) (b : Beg) (X : Ctx) (nid : Nat) (o : Oper) (va : Operand → Value) (E : Eff) : Prop :=
  ∃ nx v X', (execOp va o).run P X.w = .ok nx X'.w ∧ (nx = .value v ∨ nx = .skip ∧ v = undef) ∧ Mem b X' ∧
    X'.H = setWrites (setAllocs X.H nid E.allocs) E.writes ∧ Le X X' ∧ RelD X' E.val v

theorem run_v {s : Sem Value} {v : Value} {w w' : World} (h : s.run P w = .ok v w') : (do pure (.value (← s)) : Sem Next).run P w = .ok (.value v) w' := by simp [h]

theorem run_u {s : Sem Unit} {w w' : World} (h : s.run P w = .ok () w') : (do s; pure .skip : Sem Next).run P w = .ok .skip w' := by simp [h]

theorem step_pure (M : Mem b X) {nid : Nat} {o : Oper} {va : Operand → Value} {d : D} {obl : List Prop} {v : Value} (hr : (execOp va o).run P X.w = .ok (.value v) X.w) (h : RelD X d v) : Step P b X nid o va { val := d, obl := obl } :=
  ⟨_, v, X, hr, .inl rfl, M, rfl, Le.refl X, h⟩

/-- Numbers from nid on are free. -/
def Free (X : Ctx) (nid n : Nat) : Prop := ∀ j, j < n → slot X.H (nid + j) = .free ∧ nid + j < X.H.length

theorem Free.one {nid : Nat} (h : Free X nid 1) : slot X.H nid = .free ∧ nid < X.H.length := h 0 (by omega)

theorem sizeB_some {t : TypeId} {s : Nat} (h : sizeB P t = some s) : ∃ i, P.info? t = some i ∧ (P.underlying t).isSome = true ∧ s = i.size := by
  unfold sizeB at h
  split at h
  · rename_i hu
    rw [Option.map_eq_some_iff] at h
    obtain ⟨i, hi, rfl⟩ := h
    exact ⟨i, hi, hu, rfl⟩
  · cases h

variable {nid : Nat} {sp : Sp} {o : Oper} {ev : Operand → D} {va : Operand → Value} {E : Eff} {rd : Nat → Option Row}

theorem op_move (M : Mem b X) (hev : ∀ x, RelD X (ev x) (va x)) {x : Operand} (ho : o.op = .move x ∨ o.op = .assign x) (h : opEff P rd nid sp o ev = some E) : Step P b X nid o va E := by
  rcases ho with ho | ho
  all_goals
    simp only [opEff, ho, Option.some.injEq] at h
    subst h
    exact step_pure M (v := va x) (by simp [execOp, ho]) (hev x)

theorem op_pick (M : Mem b X) (hev : ∀ x, RelD X (ev x) (va x)) {c x y : Operand} (ho : o.op = .pick c x y) (h : opEff P rd nid sp o ev = some E) : Step P b X nid o va E := by
  simp only [opEff, ho] at h
  split at h
  · rename_i t hc
    have hc' := hev c
    rw [hc] at hc'
    simp only [RelD] at hc'
    have hx := hev x
    have hy := hev y
    split at h
    · rename_i p q hp hq
      rw [hp] at hx
      rw [hq] at hy
      simp only [RelD] at hx hy
      simp only [Option.some.injEq] at h
      subst h
      refine step_pure M (v := .bool (cond t p q)) ?_ (by simp only [RelD])
      cases t <;> simp [execOp, ho, hc', hx, hy, asBool]
    · split at h
      all_goals
        simp only [Option.some.injEq] at h
        subst h
      · exact step_pure M (v := va x) (by simp [execOp, ho, hc', asBool]) hx
      · exact step_pure M (v := va y) (by simp [execOp, ho, hc', asBool]) hy
  · cases h

theorem op_alloc (M : Mem b X) {t : TypeId} (ho : o.op = .alloc t) (h : opEff P rd nid sp o ev = some E) (hf : Free X nid E.allocs.length) (hn : b.n ≤ nid) : Step P b X nid o va E := by
  simp only [opEff, ho, Option.map_eq_some_iff] at h
  obtain ⟨cs, hz, rfl⟩ := h
  obtain ⟨v, X', h1, h2, h3, h4, h5⟩ := s_alloc (P := P) M hf.one.1 hf.one.2 hn hz
  exact ⟨_, v, X', by simp only [execOp, ho]; exact run_v h1, .inl rfl, h2, h3, h4, h5⟩

theorem op_box (M : Mem b X) (hev : ∀ x, RelD X (ev x) (va x)) {t : TypeId} {x : Operand} (ho : o.op = .box t x) (h : opEff P rd nid sp o ev = some E) (hf : Free X nid E.allocs.length) (hn : b.n ≤ nid) : Step P b X nid o va E := by
  simp only [opEff, ho, Option.map_eq_some_iff] at h
  obtain ⟨cs, hz, rfl⟩ := h
  obtain ⟨v, X', h1, h2, h3, h4, h5⟩ := s_box (P := P) M hf.one.1 hf.one.2 hn t hz (hev x)
  exact ⟨_, v, X', by simp only [execOp, ho]; exact run_v h1, .inl rfl, h2, h3, h4, h5⟩

theorem op_build (M : Mem b X) (hev : ∀ x, RelD X (ev x) (va x)) {t : TypeId} {parts : Array (Nat × Operand)} (ho : o.op = .build t parts) (h : opEff P rd nid sp o ev = some E) : Step P b X nid o va E := by
  simp only [opEff, ho] at h
  split at h
  · rename_i fs z hu hz
    split at h
    · rename_i places hp
      rw [Option.map_eq_some_iff] at h
      obtain ⟨cs, hc, rfl⟩ := h
      obtain ⟨v, h1, h2⟩ := s_build_struct hev hu hz parts hp hc
      exact step_pure M (by simp only [execOp, ho]; exact run_v h1) h2
    · cases h
  · rename_i n e z hu hz
    split at h
    · rename_i ie hie
      rw [Option.map_eq_some_iff] at h
      obtain ⟨cs, hc, rfl⟩ := h
      obtain ⟨v, h1, h2⟩ := s_build_array hev hu hz parts hie hc
      exact step_pure M (by simp only [execOp, ho]; exact run_v h1) h2
    · cases h
  · cases h

theorem op_buildSlice (M : Mem b X) (hev : ∀ x, RelD X (ev x) (va x)) (hrd : ∀ id r, rd id = some r → hget X.H id = some r) {t : TypeId} {len : Nat} {parts : Array (Nat × Operand)} (ho : o.op = .buildSlice t len parts) (h : opEff P rd nid sp o ev = some E) (hf : Free X nid E.allocs.length) (hn : b.n ≤ nid) : Step P b X nid o va E := by
  simp only [opEff, ho] at h
  split at h
  · rename_i e hu
    split at h
    · rename_i ty z _ hz
      split at h
      · rename_i hg
        simp only [Bool.and_eq_true, decide_eq_true_eq] at hg
        split at h
        · rename_i cs hc
          split at h
          · simp only [Option.some.injEq] at h
            subst h
            obtain ⟨v, X', h1, h2, h3, h4, h5⟩ := s_buildSlice_box (P := P) M hf.one.1 hf.one.2 hn hev hu hz len parts hg.1.1 (by simpa using hg.1.2) hg.2 hc
            exact ⟨_, v, X', by simp only [execOp, ho]; exact run_v h1, .inl rfl, h2, h3, h4, h5⟩
          split at h
          · rename_i xs hxs
            split at h
            · rename_i hnd
              simp only [Option.some.injEq] at h
              subst h
              obtain ⟨v, X', h1, h2, h3, h4, h5⟩ := s_buildSlice (P := P) M hf.one.1 hf.one.2 hn rd hrd hev hu hz len parts hg.1.1 (by simpa using hg.1.2) hg.2 hc hxs hnd
              exact ⟨_, v, X', by simp only [execOp, ho]; exact run_v h1, .inl rfl, h2, h3, h4, h5⟩
            · cases h
          · cases h
        · cases h
      · cases h
    · cases h
  · cases h

theorem op_load (M : Mem b X) (hev : ∀ x, RelD X (ev x) (va x)) (hrd : ∀ id r, rd id = some r → hget X.H id = some r) {t : TypeId} {x : Operand} (ho : o.op = .load t x) (h : opEff P rd nid sp o ev = some E) (hob : ∀ p ∈ E.obl, p) : Step P b X nid o va E := by
  simp only [opEff, ho] at h
  split at h
  · rename_i s hs
    obtain ⟨i, hi, hu, rfl⟩ := sizeB_some hs
    have hx := hev x
    split at h
    · rename_i id k off he
      rw [he] at hx
      split at h
      · rename_i bt cs hr
        split at h
        · rename_i hfit
          rw [Option.map_eq_some_iff] at h
          obtain ⟨d, hd, rfl⟩ := h
          obtain ⟨v, h1, h2⟩ := s_load_box (P := P) M hi hu hx (hrd _ _ hr) hfit hd
          exact step_pure M (by simp only [execOp, ho]; exact run_v h1) h2
        · cases h
      · rename_i bt ty xs hr
        split at h
        · rename_i hfit
          rw [Option.map_eq_some_iff] at h
          obtain ⟨d, hd, rfl⟩ := h
          obtain ⟨v, h1, h2⟩ := s_load_data (P := P) M hi hu hx (hrd _ _ hr) hfit (hob _ (List.mem_singleton.2 rfl)) hd
          exact step_pure M (by simp only [execOp, ho]; exact run_v h1) h2
        · cases h
      · cases h
    · rename_i cs he
      rw [he] at hx
      split at h
      · rename_i hfit
        rw [Option.map_eq_some_iff] at h
        obtain ⟨d, hd, rfl⟩ := h
        obtain ⟨v, h1, h2⟩ := s_load_ro (P := P) hi hu hx hfit hd
        exact step_pure M (by simp only [execOp, ho]; exact run_v h1) h2
      · cases h
    · cases h
  · cases h

theorem op_store (M : Mem b X) (hev : ∀ x, RelD X (ev x) (va x)) (hrd : ∀ id r, rd id = some r → hget X.H id = some r) {t : TypeId} {x y : Operand} (ho : o.op = .store t x y) (h : opEff P rd nid sp o ev = some E) (hob : ∀ p ∈ E.obl, p) : Step P b X nid o va E := by
  simp only [opEff, ho] at h
  split at h
  · rename_i s cs hs hc
    obtain ⟨i, hi, hu, rfl⟩ := sizeB_some hs
    have hx := hev x
    split at h
    · rename_i hcl
      split at h
      · rename_i id k off he
        rw [he] at hx
        split at h
        · rename_i bt old hr
          split at h
          · rename_i hfit
            simp only [Option.some.injEq] at h
            subst h
            obtain ⟨X', h1, h2, h3, h4⟩ := s_store_box (P := P) M hi hx (hrd _ _ hr) hc (hev y) hcl hfit
            exact ⟨_, undef, X', by simp only [execOp, ho]; exact run_u h1, .inr ⟨rfl, rfl⟩, h2, h3, h4, by simp only [RelD]⟩
          · cases h
        · rename_i e ty xs hr
          split at h
          · rename_i hg
            simp only [Bool.and_eq_true, decide_eq_true_eq] at hg
            split at h
            · rename_i z hz
              simp only [Option.some.injEq] at h
              subst h
              obtain ⟨X', h1, h2, h3, h4⟩ := s_store_data (P := P) M rd hrd hi hx (hrd _ _ hr) hc (hev y) hcl hg.1 hg.2 (hob _ (List.mem_singleton.2 rfl)) hz
              exact ⟨_, undef, X', by simp only [execOp, ho]; exact run_u h1, .inr ⟨rfl, rfl⟩, h2, h3, h4, by simp only [RelD]⟩
            · cases h
          · cases h
        · cases h
      · cases h
    · cases h
  · cases h

theorem op_nilCheck (M : Mem b X) (hev : ∀ x, RelD X (ev x) (va x)) (hrd : ∀ id r, rd id = some r → hget X.H id = some r) {x : Operand} (ho : o.op = .nilCheck x) (h : opEff P rd nid sp o ev = some E) : Step P b X nid o va E := by
  simp only [opEff, ho] at h
  have hx := hev x
  split at h
  · rename_i id k off he
    rw [he] at hx
    split at h
    · rename_i r hr
      simp only [Option.some.injEq] at h
      subst h
      have hx' := hx
      simp only [RelD] at hx'
      rw [hget_live.1 (hrd _ _ hr)] at hx'
      obtain ⟨l, _, hv⟩ := hx'
      exact step_pure M (v := va x) (by simp [execOp, ho, hv]) hx
    · cases h
  · rename_i cs he
    rw [he] at hx
    simp only [Option.some.injEq] at h
    subst h
    have hx' := hx
    simp only [RelD] at hx'
    obtain ⟨a, us, hv, _⟩ := hx'
    exact step_pure M (v := va x) (by simp [execOp, ho, hv]) hx
  · cases h

theorem op_bin (M : Mem b X) (hev : ∀ x, RelD X (ev x) (va x)) {op : BinOp} {t t' : TypeId} {x y : Operand} (ho : o.op = .binOp op t x y t') (h : opEff P rd nid sp o ev = some E) (hob : ∀ p ∈ E.obl, p) : Step P b X nid o va E := by
  simp only [opEff, ho] at h
  split at h
  · rename_i v ps hb
    simp only [Option.some.injEq] at h
    subst h
    refine step_pure M (v := v) ?_ (by simp only [RelD])
    simp only [execOp, ho]
    exact run_v (s_bin hb (hev x) (hev y) hob x y)
  · rw [Option.map_eq_some_iff] at h
    obtain ⟨v, h, rfl⟩ := h
    refine step_pure M (v := v) ?_ (by simp only [RelD])
    simp only [execOp, ho]
    exact run_v (s_eq h (hev x) (hev y) x y)

theorem op_un (M : Mem b X) (hev : ∀ x, RelD X (ev x) (va x)) {op : UnOp} {t : TypeId} {x : Operand} (ho : o.op = .unOp op t x) (h : opEff P rd nid sp o ev = some E) : Step P b X nid o va E := by
  simp only [opEff, ho] at h
  have hx := hev x
  split at h
  · rename_i c he
    rw [he] at hx
    simp only [RelD] at hx
    simp only [Option.some.injEq] at h
    subst h
    exact step_pure M (v := .bool !c) (by simp [execOp, ho, hx, Op.unary]) (by simp only [RelD])
  · rename_i k n he
    rw [he] at hx
    simp only [RelD] at hx
    simp only [Option.some.injEq] at h
    subst h
    exact step_pure M (v := .int k (k.wrap (0 - n))) (by simp [execOp, ho, hx, Op.unary, Op.intArith]) (by simp only [RelD])
  · cases h

theorem op_convert (M : Mem b X) (hev : ∀ x, RelD X (ev x) (va x)) {s t : TypeId} {x : Operand} (ho : o.op = .convert s t x) (h : opEff P rd nid sp o ev = some E) (hob : ∀ p ∈ E.obl, p) : Step P b X nid o va E := by
  simp only [opEff, ho] at h
  have hx := hev x
  split at h
  · rename_i k k' n hu he
    rw [he] at hx
    simp only [RelD] at hx
    split at h
    · rename_i hs
      simp only [Option.some.injEq] at h
      subst h
      obtain ⟨ds, hds⟩ := Option.isSome_iff_exists.1 hs
      exact step_pure M (v := .int k (k.wrap n)) (by simp [execOp, ho, hx, convert, run_underlying hu, run_underlying hds, Conv.intToInt]) (by simp only [RelD])
    · cases h
  · cases h

theorem op_makeFunc (M : Mem b X) (hev : ∀ x, RelD X (ev x) (va x)) {f : FuncId} {first caps : Array Operand} (ho : o.op = .makeFunc (.func f) first caps) (h : opEff P rd nid sp o ev = some E) : Step P b X nid o va E := by
  simp only [opEff, ho] at h
  split at h
  · rename_i h0
    simp only [Option.some.injEq] at h
    subst h
    have hf0 : first = #[] := Array.size_eq_zero_iff.1 h0
    refine step_pure M (v := .func (.func f) #[] (caps.map va)) (by simp [execOp, ho, Instr.makeFunc, hf0]) ?_
    simp only [RelD]
    refine ⟨caps.toList.map va, by rw [← Array.toList_map], relDs_map _ fun x _ => hev x⟩
  · cases h

theorem own_forget {id off len k : Nat} {e : TypeId} {t : Ty} {xs : List t.El} {v : Value} (hs : slot X.H id = .live (.data e t xs)) (hk : xs.length ≤ off + k) (h : RelD X (.own id off len (some k)) v) : RelD X (.own id off len none) v := by
  simp only [RelD] at h ⊢
  rw [hs] at h ⊢
  obtain ⟨h1, A, c, h2, h3, h4, h5, h6, h7⟩ := h
  have := h5 k rfl
  subst this
  exact ⟨h1, A, c, h2, h3, h4, by simp, fun _ => hk, h7⟩

theorem op_makeSlice (M : Mem b X) (hev : ∀ x, RelD X (ev x) (va x)) (hrd : ∀ id r, rd id = some r → hget X.H id = some r) {t : TypeId} {l c : Operand} (ho : o.op = .makeSlice t l c) (h : opEff P rd nid sp o ev = some E) (hob : ∀ p ∈ E.obl, p) (hf : Free X nid E.allocs.length) (hn : b.n ≤ nid) : Step P b X nid o va E := by
  simp only [opEff, ho] at h
  have hl := hev l
  have hc := hev c
  split at h
  · rename_i e kl ln kc cn hu hel hec
    rw [hel] at hl
    rw [hec] at hc
    simp only [RelD] at hl hc
    split at h
    · rename_i ty z _ hz
      split at h
      · rename_i hg
        simp only [Bool.and_eq_true, decide_eq_true_eq] at hg
        split at h
        · rename_i y hy
          simp only [Option.some.injEq] at h
          subst h
          have o1 := hob (0 ≤ ln) (by simp)
          have o2 := hob (ln ≤ cn) (by simp)
          have o3 := hob (cn ≤ 9223372036854775807) (by simp)
          have o4 := hob (cn.toNat * P.bytesOf e ≤ 281474976710656) (by simp)
          obtain ⟨v, X', h1, h2, h3, h4, h5⟩ := s_makeSlice (P := P) M hf.one.1 hf.one.2 hn rd hrd hu hz hg.1 (by simpa using hg.2) hy kl kc ln cn o1 o2 o3 o4
          have h6 : RelD X' (.own nid 0 ln.toNat (capM l c cn.toNat)) v := by
            rcases capM_cases l c cn.toNat with ec | ec
            · rw [ec]; exact h5
            · rw [ec]
              refine own_forget (e := e) (t := ty) (xs := List.replicate cn.toNat y) ?_ (by simp) h5
              rw [h3]
              rw [slot_set, if_pos ⟨rfl, hf.one.2⟩]
          exact ⟨_, v, X', by simp only [execOp, ho, hl, hc]; exact run_v h1, .inl rfl, h2, h3, h4, h6⟩
        · cases h
      · cases h
    · cases h
  · cases h

theorem op_extract (M : Mem b X) (hev : ∀ x, RelD X (ev x) (va x)) {t : Operand} {i : Nat} (ho : o.op = .extract t i) (h : opEff P rd nid sp o ev = some E) : Step P b X nid o va E := by
  simp only [opEff, ho] at h
  have hx := hev t
  split at h
  · rename_i ds he
    rw [he] at hx
    simp only [RelD] at hx
    obtain ⟨us, hv, hr⟩ := hx
    rw [Option.map_eq_some_iff] at h
    obtain ⟨d, hd, rfl⟩ := h
    obtain ⟨u, hu, hr'⟩ := relDs_get hr hd
    exact step_pure M (v := u) (by simp [execOp, ho, hv, Instr.extract, hu]) hr'
  · cases h

end
end Go.Proofs.YtnakmganodkliaaDoorAm

/- One operation does what is computed of it: slices, places, built-in functions. -/
set_option linter.unusedVariables false
set_option linter.unusedSimpArgs false
namespace Go.Proofs.YtnakmganodkliaaDoorAm
open Go

section
variable {P : Program} {b : Beg} {X : Ctx}
variable {nid : Nat} {sp : Sp} {o : Oper} {ev : Operand → D} {va : Operand → Value} {E : Eff} {rd : Nat → Option Row}

theorem size_info {e : TypeId} {n : Nat} (h : n = P.cellsOf e) (h0 : n ≠ 0) : ∃ i, P.info? e = some i ∧ n = i.size := by
  obtain ⟨i, hi, hs⟩ := cellsOf_info (P := P) (t := e) (by rw [← h]; exact h0)
  exact ⟨i, hi, by rw [h, hs]⟩

theorem optInt_val (hev : ∀ x, RelD X (ev x) (va x)) {x : Option Operand} {r : Option Int} (h : optInt (x.map ev) = some r) (d : Int) : (x.map va = none ∧ r.getD d = d) ∨ ∃ k, x.map va = some (.int k (r.getD d)) := by
  rcases optInt_some hev h d with ⟨h1, h2, _⟩ | ⟨k, n, h1, h2⟩
  · exact .inl ⟨h1, h2⟩
  · subst h2
    exact .inr ⟨k, h1⟩

theorem op_slice (M : Mem b X) (hev : ∀ x, RelD X (ev x) (va x)) (hrd : ∀ id r, rd id = some r → hget X.H id = some r) {t : TypeId} {x : Operand} {lo hi mx : Option Operand} (ho : o.op = .slice t x lo hi mx) (h : opEff P rd nid sp o ev = some E) (hob : ∀ p ∈ E.obl, p) : Step P b X nid o va E := by
  simp only [opEff, ho] at h
  have hx := hev x
  split at h
  · rename_i e l hh m hu el eh em
    split at h
    · cases h
    · rename_i hmh
      have vl := optInt_val hev el 0
      have vm := optInt_some hev em 0
      have hmx : ∀ (n : Int), m.getD 0 = n → (mx.map va = none ∨ (hi.map va ≠ none ∧ ∃ k, mx.map va = some (.int k n))) := by
        intro n hn
        rcases vm with ⟨h1, _, _⟩ | ⟨k, n', h1, h2⟩
        · exact .inl h1
        · refine .inr ⟨?_, k, ?_⟩
          · subst h2
            intro hc
            rcases optInt_some hev eh 0 with ⟨_, _, h3⟩ | ⟨k2, n2, h3, _⟩
            · subst h3
              simp at hmh
            · rw [hc] at h3
              cases h3
          · subst h2
            simp only [Option.getD_some] at hn
            rw [h1, hn]
      have hmn : m = none → mx.map va = none := by
        intro hm
        rcases vm with ⟨h1, _, _⟩ | ⟨k, n', h1, h2⟩
        · exact h1
        · rw [hm] at h2
          cases h2
      have hms : ∀ n, m = some n → mx.map va ≠ none := by
        intro n hm
        rcases vm with ⟨_, _, h2⟩ | ⟨k, n', h1, h2⟩
        · rw [hm] at h2
          cases h2
        · rw [h1]
          simp
      split at h
      · rename_i id off len cap he
        rw [he] at hx
        have vh := optInt_val hev eh (len : Int)
        split at h
        · rename_i et ty xs hr
          split at h
          · rename_i hg
            simp only [Bool.and_eq_true, decide_eq_true_eq] at hg
            obtain ⟨i, hi', hsz⟩ := size_info hg.1 (by simpa using hg.2)
            split at h
            all_goals
              simp only [Option.some.injEq] at h
              subst h
              simp only [List.mem_cons, List.not_mem_nil, or_false, forall_eq_or_imp, forall_eq] at hob
            · obtain ⟨o1, o2, o3⟩ := hob
              obtain ⟨v, h1, h2⟩ := s_slice_own (P := P) hu hi' hx (hrd _ _ hr) hsz (cap' := none) _ _ _ _ _ 0 vl vh (hmx 0 rfl) o1 o2 (.inl ⟨hmn rfl, rfl, rfl, o3⟩)
              exact step_pure M (by simp only [execOp, ho]; exact run_v h1) h2
            · rename_i c
              obtain ⟨o1, o2, o3, o4⟩ := hob
              obtain ⟨v, h1, h2⟩ := s_slice_own (P := P) hu hi' hx (hrd _ _ hr) hsz (cap' := some _) _ _ _ _ _ 0 vl vh (hmx 0 rfl) o1 o2 (.inr (.inl ⟨hmn rfl, c, rfl, rfl, o3, o4⟩))
              exact step_pure M (by simp only [execOp, ho]; exact run_v h1) h2
            · rename_i m'
              obtain ⟨o1, o2, o3, o4⟩ := hob
              obtain ⟨v, h1, h2⟩ := s_slice_own (P := P) hu hi' hx (hrd _ _ hr) hsz (cap' := some _) _ _ _ _ _ m' vl vh (hmx m' rfl) o1 o2 (.inr (.inr (.inl ⟨hms m' rfl, rfl, rfl, o3, o4⟩)))
              exact step_pure M (by simp only [execOp, ho]; exact run_v h1) h2
            · rename_i m' c
              obtain ⟨o1, o2, o3, o4, o5⟩ := hob
              obtain ⟨v, h1, h2⟩ := s_slice_own (P := P) hu hi' hx (hrd _ _ hr) hsz (cap' := some _) _ _ _ _ _ m' vl vh (hmx m' rfl) o1 o2 (.inr (.inr (.inr ⟨hms m' rfl, c, rfl, rfl, o3, o4, o5⟩)))
              exact step_pure M (by simp only [execOp, ho]; exact run_v h1) h2
          · cases h
        · cases h
      · rename_i nn cl ty xs he
        rw [he] at hx
        have vh := optInt_val hev eh (xs.length : Int)
        split at h
        · rename_i hg
          simp only [Bool.and_eq_true, decide_eq_true_eq] at hg
          obtain ⟨i, hi', hsz⟩ := size_info hg.1 (by simpa using hg.2)
          split at h
          all_goals
            simp only [Option.some.injEq] at h
            subst h
            simp only [List.mem_cons, List.not_mem_nil, or_false, forall_eq_or_imp, forall_eq] at hob
          · obtain ⟨o1, o2, o3⟩ := hob
            obtain ⟨v, h1, h2⟩ := s_slice_ro (P := P) hu hi' hx hsz _ _ _ _ _ 0 vl vh (hmx 0 rfl) o1 o2 o3 false (.inl ⟨hmn rfl, rfl⟩)
            exact step_pure M (by simp only [execOp, ho]; exact run_v h1) h2
          · rename_i m'
            obtain ⟨o1, o2, o3, o4⟩ := hob
            obtain ⟨v, h1, h2⟩ := s_slice_ro (P := P) hu hi' hx hsz _ _ _ _ _ m' vl vh (hmx m' rfl) o1 o2 (by omega) true (.inr ⟨hms m' rfl, o3⟩)
            exact step_pure M (by simp only [execOp, ho]; exact run_v h1) h2
        · cases h
      · cases h
  · rename_i lo' hi' hu el eh em
    split at h
    · rename_i s he
      rw [he] at hx
      simp only [RelD] at hx
      simp only [Option.some.injEq] at h
      subst h
      simp only [List.mem_cons, List.not_mem_nil, or_false, forall_eq_or_imp, forall_eq] at hob
      obtain ⟨o1, o2, o3⟩ := hob
      have vl := optInt_val hev el 0
      have vh := optInt_val hev eh (s.size : Int)
      have vm : mx.map va = none := by
        rcases optInt_some hev em 0 with ⟨h1, _, _⟩ | ⟨k, n', h1, h2⟩
        · exact h1
        · cases h2
      refine step_pure M (v := .string (s.extract (lo'.getD 0).toNat (hi'.getD s.size).toNat)) ?_ (by simp only [RelD])
      simp only [execOp, ho, hx, vm]
      exact run_v (run_slice_str hu X.w s _ _ _ _ vl vh o1 o2 o3)
    · cases h
  · cases h

theorem op_field (M : Mem b X) (hev : ∀ x, RelD X (ev x) (va x)) (hrd : ∀ id r, rd id = some r → hget X.H id = some r) {t : TypeId} {x : Operand} {f : Nat} (ho : o.op = .fieldAddr t x f) (h : opEff P rd nid sp o ev = some E) : Step P b X nid o va E := by
  simp only [opEff, ho] at h
  have hx := hev x
  split at h
  · rename_i fs hu
    split at h
    · rename_i fd hfd
      split at h
      · rename_i h0
        split at h
        · rename_i id i off he
          rw [he] at hx
          split at h
          · rename_i r hr
            simp only [Option.some.injEq] at h
            subst h
            obtain ⟨v, h1, h2⟩ := s_field_ptr (P := P) M hu hfd h0 hx (hrd _ _ hr)
            exact step_pure M (by simp only [execOp, ho]; exact run_v h1) h2
          · cases h
        · rename_i cs he
          rw [he] at hx
          simp only [Option.some.injEq] at h
          subst h
          obtain ⟨v, h1, h2⟩ := s_field_ro (P := P) hu hfd h0 hx
          exact step_pure M (by simp only [execOp, ho]; exact run_v h1) h2
        · cases h
      · cases h
    · cases h
  · cases h

theorem op_indexAddr (M : Mem b X) (hev : ∀ x, RelD X (ev x) (va x)) (hrd : ∀ id r, rd id = some r → hget X.H id = some r) {t : TypeId} {x ix : Operand} (ho : o.op = .indexAddr t x ix) (h : opEff P rd nid sp o ev = some E) (hob : ∀ p ∈ E.obl, p) : Step P b X nid o va E := by
  simp only [opEff, ho] at h
  have hx := hev x
  have hi := hev ix
  split at h
  · rename_i k n hei
    rw [hei] at hi
    simp only [RelD] at hi
    split at h
    · rename_i e hu
      split at h
      · rename_i id off len cap he
        rw [he] at hx
        split at h
        · rename_i et ty xs hr
          split at h
          · rename_i hg
            simp only [Bool.and_eq_true, decide_eq_true_eq] at hg
            obtain ⟨i, hi', hsz⟩ := size_info hg.1 (by simpa using hg.2)
            simp only [Option.some.injEq] at h
            subst h
            simp only [List.mem_cons, List.not_mem_nil, or_false, forall_eq_or_imp, forall_eq] at hob
            obtain ⟨v, h1, h2⟩ := s_index_own (P := P) hu hi' hx (hrd _ _ hr) hsz k n hob.1 hob.2
            exact step_pure M (by simp only [execOp, ho, hi]; exact run_v h1) h2
          · cases h
        · cases h
      · rename_i id len sz he
        rw [he] at hx
        split at h
        · rename_i bt ds hr
          split at h
          · rename_i hg
            simp only [Bool.and_eq_true, decide_eq_true_eq] at hg
            obtain ⟨i, hi', hsz⟩ := size_info hg.1 (by simpa using hg.2)
            simp only [Option.some.injEq] at h
            subst h
            subst hsz
            simp only [List.mem_cons, List.not_mem_nil, or_false, forall_eq_or_imp, forall_eq] at hob
            obtain ⟨v, h1, h2⟩ := s_index_bsl (P := P) hu hi' hx (hrd _ _ hr) k n hob.1 hob.2
            exact step_pure M (by simp only [execOp, ho, hi]; exact run_v h1) h2
          · cases h
        · cases h
      · rename_i nn cl ty xs he
        rw [he] at hx
        split at h
        · rename_i hg
          simp only [Bool.and_eq_true, decide_eq_true_eq] at hg
          obtain ⟨i, hi', hsz⟩ := size_info hg.1 (by simpa using hg.2)
          simp only [Option.some.injEq] at h
          subst h
          simp only [List.mem_cons, List.not_mem_nil, or_false, forall_eq_or_imp, forall_eq] at hob
          obtain ⟨v, h1, h2⟩ := s_index_ro (P := P) hu hi' hx hsz k n hob.1 hob.2
          exact step_pure M (by simp only [execOp, ho, hi]; exact run_v h1) h2
        · cases h
      · cases h
    · rename_i len e hu
      split at h
      · cases h
      · rename_i h0
        obtain ⟨i, hi', hsz⟩ := cellsOf_info (P := P) h0
        split at h
        · rename_i id j off he
          rw [he] at hx
          split at h
          · rename_i bt ds hr
            simp only [Option.some.injEq] at h
            subst h
            simp only [List.mem_cons, List.not_mem_nil, or_false, forall_eq_or_imp, forall_eq] at hob
            obtain ⟨v, h1, h2⟩ := s_index_box (P := P) hu hi' hx (hrd _ _ hr) k n hob.1 hob.2
            rw [hsz]
            exact step_pure M (by simp only [execOp, ho, hi]; exact run_v h1) h2
          · cases h
        · rename_i cs he
          rw [he] at hx
          split at h
          · rename_i kk ns htab
            simp only [Option.some.injEq] at h
            subst h
            simp only [List.mem_cons, List.not_mem_nil, or_false, forall_eq_or_imp, forall_eq] at hob
            obtain ⟨v, h1, h2⟩ := s_index_tab (P := P) hu hi' hsz.symm hx htab k n hob.1 hob.2
            exact step_pure M (by simp only [execOp, ho, hi]; exact run_v h1) h2
          · simp only [Option.some.injEq] at h
            subst h
            simp only [List.mem_cons, List.not_mem_nil, or_false, forall_eq_or_imp, forall_eq] at hob
            obtain ⟨v, h1, h2⟩ := s_index_arro (P := P) hu hi' hx k n hob.1 hob.2
            rw [hsz]
            exact step_pure M (by simp only [execOp, ho, hi]; exact run_v h1) h2
        · cases h
    · cases h
  · cases h

theorem op_index (M : Mem b X) (hev : ∀ x, RelD X (ev x) (va x)) {t : TypeId} {x ix : Operand} (ho : o.op = .index t x ix) (h : opEff P rd nid sp o ev = some E) (hob : ∀ p ∈ E.obl, p) : Step P b X nid o va E := by
  simp only [opEff, ho] at h
  have hx := hev x
  have hi := hev ix
  split at h
  · rename_i k n len e cs hei hu he
    rw [hei] at hi
    rw [he] at hx
    simp only [RelD] at hi
    split at h
    · rename_i s hs
      obtain ⟨i, hi', hu', rfl⟩ := sizeB_some hs
      rw [Option.map_eq_some_iff] at h
      obtain ⟨d, hd, rfl⟩ := h
      simp only [List.mem_cons, List.not_mem_nil, or_false, forall_eq_or_imp, forall_eq] at hob
      obtain ⟨v, h1, h2⟩ := s_index_agg (P := P) hu hi' hu' hx k n hob.1 hob.2.1 hob.2.2 hd
      exact step_pure M (by simp only [execOp, ho, hi]; exact run_v h1) h2
    · cases h
  · cases h

theorem lenD_rel {d : D} {n : Nat} (h : lenD d = some n) {u : Value} (hr : RelD X d u) :
    ∃ A c, u = .slice A n c := by
  unfold lenD at h
  split at h
  · simp only [Option.some.injEq] at h
    subst h
    simp only [RelD] at hr
    exact ⟨_, _, hr⟩
  · simp only [Option.some.injEq] at h
    subst h
    simp only [RelD] at hr
    obtain ⟨A, c, us, e, _⟩ := hr
    exact ⟨_, _, e⟩
  · rename_i id off len cap
    simp only [Option.some.injEq] at h
    subst h
    simp only [RelD] at hr
    cases hs : slot X.H id with
    | free => rw [hs] at hr; exact hr.elim
    | dead => rw [hs] at hr; obtain ⟨A, c, e, _⟩ := hr; exact ⟨_, _, e⟩
    | live r =>
      rw [hs] at hr
      cases r with
      | box ty cs => exact hr.elim
      | data e ty xs =>
        obtain ⟨_, A, c, e, _⟩ := hr
        exact ⟨_, _, e⟩
  · rename_i id len sz
    simp only [Option.some.injEq] at h
    subst h
    simp only [RelD] at hr
    cases hs : slot X.H id with
    | free => rw [hs] at hr; exact hr.elim
    | dead => rw [hs] at hr; obtain ⟨A, e⟩ := hr; exact ⟨_, _, e⟩
    | live r =>
      rw [hs] at hr
      cases r with
      | data _ _ _ => exact hr.elim
      | box ty cs =>
        obtain ⟨l, _, e⟩ := hr
        exact ⟨_, _, e⟩
  · simp only [Option.some.injEq] at h
    subst h
    simp only [RelD] at hr
    exact hr
  · cases h

theorem capD_rel {id off len k : Nat} {u : Value} (hr : RelD X (.own id off len (some k)) u) : ∃ A, u = .slice A len k := by
  simp only [RelD] at hr
  cases hs : slot X.H id with
  | free => rw [hs] at hr; exact hr.elim
  | dead => rw [hs] at hr; obtain ⟨A, c, e, hk⟩ := hr; rw [hk k rfl] at e; exact ⟨_, e⟩
  | live r =>
    rw [hs] at hr
    cases r with
    | box ty cs => exact hr.elim
    | data e ty xs =>
      obtain ⟨_, A, c, e, _, _, hk, _⟩ := hr
      rw [hk k rfl] at e
      exact ⟨_, e⟩

end
end Go.Proofs.YtnakmganodkliaaDoorAm

/- One operation does what is computed of it: built-in functions. -/
set_option linter.unusedVariables false
set_option linter.unusedSimpArgs false
namespace Go.Proofs.YtnakmganodkliaaDoorAm
open Go

section
variable {P : Program} {b : Beg} {X : Ctx}
variable {nid : Nat} {sp : Sp} {o : Oper} {ev : Operand → D} {va : Operand → Value} {E : Eff} {rd : Nat → Option Row}

theorem exec_builtin {c : Call} {B : Builtin} (ho : o.op = .call c) (hc : c.callee = .builtin B) (w : World) :
    ∃ cs, (execOp va o).run P w = (builtin B c.argTypes o.type cs (c.args.map va)).run P w := by
  simp only [execOp, ho, resolve, hc]
  rw [Sem.run_bind]
  simp only [Sem.run_pure]
  exact ⟨_, rfl⟩

theorem args_eq {c : Call} {l : List Operand} (h : c.args.toList = l) : c.args.map va = (l.map va).toArray := by
  rw [← h, ← Array.toList_map]

theorem types_eq {c : Call} {l : List TypeId} (h : c.argTypes.toList = l) : c.argTypes = l.toArray := by
  rw [← h]

theorem map_two {l : List Operand} {x y : D} (h : l.map ev = [x, y]) : ∃ p q, l = [p, q] ∧ ev p = x ∧ ev q = y := by
  match l, h with
  | [p, q], h => simp only [List.map_cons, List.map_nil, List.cons.injEq, and_true] at h; exact ⟨p, q, rfl, h.1, h.2⟩
  | [], h => simp at h
  | [_], h => simp at h
  | _ :: _ :: _ :: _, h => simp at h

theorem map_one {l : List Operand} {x : D} (h : l.map ev = [x]) : ∃ p, l = [p] ∧ ev p = x := by
  match l, h with
  | [p], h => simp only [List.map_cons, List.map_nil, List.cons.injEq, and_true] at h; exact ⟨p, rfl, h⟩
  | [], h => simp at h
  | _ :: _ :: _, h => simp at h

theorem bi_append (M : Mem b X) (hrd : ∀ id r, rd id = some r → hget X.H id = some r) {s x : D} {e e' t t' oty : TypeId} {v0 u : Value} (hs : RelD X s v0) (hu : RelD X x u) (ht : P.underlying t = some (.slice e)) (ht' : P.underlying t' = some (.slice e'))
    (h : appEff P rd nid s x e = some E) (hob : ∀ p ∈ E.obl, p) (hf : Free X nid E.allocs.length) (hn : b.n ≤ nid) :
    ∃ v X', (Builtin.append_ #[t, t'] oty #[v0, u]).run P X.w = .ok v X'.w ∧ Mem b X' ∧ X'.H = setWrites (setAllocs X.H nid E.allocs) E.writes ∧ Le X X' ∧ RelD X' E.val v := by
  unfold appEff at h
  split at h
  · rename_i ty _
    split at h
    · rename_i hg
      simp only [Bool.and_eq_true, decide_eq_true_eq] at hg
      obtain ⟨z, hz⟩ := Option.isSome_iff_exists.1 hg.2
      have h0 : ty.size ≠ 0 := by simpa using hg.1.2
      split at h
      · rename_i ys hys
        split at h
        · simp only [Option.some.injEq] at h
          subst h
          simp only [RelD] at hs
          subst hs
          exact s_append_nil M hf.one.1 hf.one.2 hn rd hrd ht ht' hz hg.1.1 h0 hys hu (hob _ (List.mem_singleton.2 rfl))
        · split at h
          · rename_i hty
            subst hty
            simp only [Option.some.injEq] at h
            subst h
            exact s_append_closed M hf.one.1 hf.one.2 hn rd hrd ht ht' hz hg.1.1 h0 hys hu hs (hob _ (List.mem_singleton.2 rfl))
          · cases h
        · rename_i id off len cap
          split at h
          · rename_i e2 ty' xs hr
            split at h
            · rename_i hty
              subst hty
              split at h
              · rename_i he
                subst he
                split at h
                · rename_i hcap
                  subst hcap
                  simp only [Option.some.injEq] at h
                  subst h
                  exact s_append_zero M hf.one.1 hf.one.2 hn rd hrd ht ht' hz hg.1.1 h0 hys hu (hrd _ _ hr) hs (hob _ (List.mem_singleton.2 rfl))
                · simp only [Option.some.injEq] at h
                  subst h
                  exact s_append_own M hf.one.1 hf.one.2 hn rd hrd ht ht' hz hg.1.1 h0 hys hu (hrd _ _ hr) hs (hob _ (List.mem_singleton.2 rfl))
              · cases h
            · cases h
          · cases h
        · cases h
      · cases h
    · cases h
  · cases h

theorem run_append_store {t t' e e' ty : TypeId} {i : TypeInfo} (ht : P.underlying t = some (.slice e)) (ht' : P.underlying t' = some (.slice e')) (hi : P.info? e = some i) (w w' : World) (g o sLen sCap : Nat) (A2 : Option Addr) (m c2 : Nat)
    {news : List Value} (hf : (Builtin.firstCells i.size m (.slice A2 m c2)).run P w = .ok news.toArray w) (hroom : sLen + m ≤ sCap) (hst : (storeCells ⟨g, o + sLen * i.size, none⟩ news).run P w = .ok () w') :
    (Builtin.append_ #[t, t'] ty #[.slice (some ⟨g, o, none⟩) sLen sCap, .slice A2 m c2]).run P w = .ok (.slice (some ⟨g, o, none⟩) (sLen + m) sCap) w' := by
  simp [Builtin.append_, run_underlying ht, run_underlying ht', sizeOf, typeInfo, hi, Builtin.lenOf, hroom, hf, add_plain, hst]

/-- 'append' where the row has the room: in place. -/
theorem s_append_in (M : Mem b X) (rd : Nat → Option Row) (hrd : ∀ id r, rd id = some r → hget X.H id = some r)
    {t t' e e' oty : TypeId} {z : List D} (ht : P.underlying t = some (.slice e)) (ht' : P.underlying t' = some (.slice e')) (hz : zeroD P e = some z)
    {ty : Ty} (hsz : ty.size = P.cellsOf e) (h0 : ty.size ≠ 0) {x : D} {ys : List ty.El} {u v0 : Value} (hx : (Ty.sl ty).ofCells rd [x] = some ys) (hu : RelD X x u)
    {id off len : Nat} {xs : List ty.El} (hid : hget X.H id = some (.data e ty xs)) (hs0 : RelD X (.own id off len none) v0) (hroom : off + len + List.length ys ≤ xs.length) :
    ∃ v X', (Builtin.append_ #[t, t'] oty #[v0, u]).run P X.w = .ok v X'.w ∧ Mem b X' ∧ X'.H = X.H.set id (.live (.data e ty (xs.take (off + len) ++ ys ++ xs.drop (off + len + List.length ys)))) ∧ Le X X' ∧ RelD X' (.own id off (len + List.length ys) none) v := by
  obtain ⟨i, zv, hi, hz', hs, ho, rfl⟩ := zeroD_some hz
  have hsz' : ty.size = i.size := by rw [hsz]; simp [Program.cellsOf, hi]
  obtain ⟨A2, c2, vs, e2, h22, h23, h24, h25⟩ := src_data M rd hrd hx hu
  subst e2
  have hs1 := hs0
  simp only [RelD] at hs1
  rw [hget_live.1 hid] at hs1
  obtain ⟨hlen, A, c, ev, hc, hA, hk, hk2, hplace⟩ := hs1
  have hfit : len + List.length ys ≤ c := by have := hk2 trivial; omega
  subst ev
  have hlt : id < X.H.length := lt_of_slot (by rw [hget_live.1 hid]; simp)
  by_cases hc0 : c = 0
  · have hl0 : len = 0 := by omega
    have hy0 : ys = [] := List.eq_nil_of_length_eq_zero (by omega)
    subst hl0; subst hy0; subst hc0
    simp only [Reps] at h24
    subst h24
    have hset : X.H.set id (.live (.data e ty (xs.take (off + 0) ++ [] ++ xs.drop (off + 0 + List.length ([] : List ty.El))))) = X.H := by
      have e1 : xs.take (off + 0) ++ [] ++ xs.drop (off + 0 + List.length ([] : List ty.El)) = xs := by simp
      rw [e1]
      have e2 : X.H[id]? = some (.live (.data e ty xs)) := by
        have := hget_live.1 hid
        unfold slot at this
        rw [List.getD_eq_getElem?_getD, List.getElem?_eq_getElem hlt] at this
        rw [List.getElem?_eq_getElem hlt]
        exact congrArg some this
      rw [List.getElem?_eq_getElem hlt, Option.some.injEq] at e2
      rw [← e2]
      exact List.set_getElem_self hlt
    refine ⟨.slice A 0 0, X, run_append_none ht ht' hi X.w A A2 0 0 c2 (Nat.le_refl _) ?_, M, ?_, Le.refl X, ?_⟩
    · exact run_firstCells_at (us := []) (by simp) (fun _ => rfl) h25 X.w rfl
    · exact hset.symm
    · exact hs0
  · obtain ⟨l, hl1, hA1, hbound⟩ := hplace.resolve_left hc0
    subst hA1
    have hvl := reps_length h24
    have hfn := run_firstCells_at (P := P) (c := c2) (m := List.length ys) (size := i.size) (by rw [hvl, hsz']) h23 h25 X.w rfl
    obtain ⟨X', hst, M', hH, L'⟩ := s_put_elems (P := P) M hid hl1 (off := off + len) h24 hroom
    rw [Nat.add_mul, ← Nat.add_assoc] at hst
    have hrun := run_append_store (ty := oty) ht ht' hi X.w X'.w l.b (l.o + off * ty.size) len c A2 (List.length ys) c2 hfn hfit (by rw [← hsz']; exact hst)
    refine ⟨_, X', hrun, M', hH, L', ?_⟩
    have h1 := L'.d hs0
    simp only [RelD] at h1 ⊢
    have hsl : slot X'.H id = .live (.data e ty (xs.take (off + len) ++ ys ++ xs.drop (off + len + List.length ys))) := by
      rw [hH, slot_set, if_pos ⟨rfl, hlt⟩]
    rw [hsl] at h1 ⊢
    obtain ⟨h2, A', c', h3, h4, h5, h6, h7, h8⟩ := h1
    simp only [Value.slice.injEq, true_and] at h3
    obtain ⟨rfl, rfl⟩ := h3
    exact ⟨by simp only [List.length_append, List.length_take, List.length_drop]; omega, _, c, rfl, hfit, h5, h6, h7, h8⟩

theorem op_in (M : Mem b X) (hev : ∀ x, RelD X (ev x) (va x)) (hrd : ∀ id r, rd id = some r → hget X.H id = some r) {c : Call} (ho : o.op = .call c) (hc : c.callee = .builtin .append)
    (h : inEff P rd (c.args.toList.map ev) c.argTypes.toList = some E) (hob : ∀ p ∈ E.obl, p) : Step P b X nid o va E := by
  obtain ⟨cs, hx⟩ := exec_builtin (va := va) (P := P) ho hc X.w
  clear hc ho
  generalize hal : c.args.toList.map ev = al at h
  generalize htl : c.argTypes.toList = tl at h
  unfold inEff at h
  split at h
  rotate_left
  · cases h
  rename_i s x t t'
  obtain ⟨p, q, hp, rfl, rfl⟩ := map_two hal
  rw [args_eq hp, types_eq htl] at hx
  split at h
  rotate_left
  · cases h
  rename_i e e' hu hu'
  split at h
  rotate_left
  · cases h
  rename_i ty _
  split at h
  rotate_left
  · cases h
  rename_i hg
  simp only [Bool.and_eq_true, decide_eq_true_eq] at hg
  obtain ⟨z, hz⟩ := Option.isSome_iff_exists.1 hg.2
  have h0 : ty.size ≠ 0 := by simpa using hg.1.2
  split at h
  rotate_left
  · cases h
  rename_i ys hys
  split at h
  rotate_left
  · cases h
  rename_i id off len he
  have hs := hev p
  rw [he] at hs
  split at h
  rotate_left
  · cases h
  rename_i e2 ty' xs hr
  split at h
  rotate_left
  · cases h
  rename_i hty
  subst hty
  split at h
  rotate_left
  · cases h
  rename_i he2
  subst he2
  simp only [Option.some.injEq] at h
  subst h
  obtain ⟨v, X', h1, h2, h3, h4, h5⟩ := s_append_in (oty := o.type) M rd hrd hu hu' hz hg.1.1 h0 hys (hev q) (hrd _ _ hr) hs (hob _ (List.mem_singleton.2 rfl))
  refine ⟨_, v, X', ?_, .inl rfl, h2, h3, h4, h5⟩
  rw [hx]
  exact run_v h1

theorem op_builtin0 (M : Mem b X) (hev : ∀ x, RelD X (ev x) (va x)) (hrd : ∀ id r, rd id = some r → hget X.H id = some r) {c : Call} {B : Builtin} (ho : o.op = .call c) (hc : c.callee = .builtin B)
    (h : biEff P rd nid B (c.args.toList.map ev) c.argTypes.toList = some E) (hob : ∀ p ∈ E.obl, p) (hf : Free X nid E.allocs.length) (hn : b.n ≤ nid) : Step P b X nid o va E := by
  obtain ⟨cs, hx⟩ := exec_builtin (va := va) (P := P) ho hc X.w
  clear hc ho
  generalize hal : c.args.toList.map ev = al at h
  generalize htl : c.argTypes.toList = tl at h
  unfold biEff at h
  split at h
  · -- len
    unfold lenEff at h
    split at h
    rotate_left
    · cases h
    rename_i x t
    obtain ⟨p, hp, rfl⟩ := map_one hal
    rw [args_eq hp, types_eq htl] at hx
    have hu := hev p
    split at h
    · rename_i e hu'
      split at h
      · rename_i n hl
        simp only [Option.some.injEq] at h
        subst h
        obtain ⟨A, k, e⟩ := lenD_rel hl hu
        refine step_pure M (v := .int .i64 (n : Nat)) ?_ (by simp only [RelD])
        rw [hx]
        simp [builtin, Builtin.len_, run_underlying hu', e, goInt]
      · cases h
    · rename_i hu'
      split at h
      · rename_i s he
        rw [he] at hu
        simp only [RelD] at hu
        simp only [Option.some.injEq] at h
        subst h
        refine step_pure M (v := .int .i64 (s.size : Nat)) ?_ (by simp only [RelD])
        rw [hx]
        simp [builtin, Builtin.len_, run_underlying hu', hu, goInt]
      · cases h
    · rename_i n e hu'
      simp only [Option.some.injEq] at h
      subst h
      refine step_pure M (v := .int .i64 (n : Nat)) ?_ (by simp only [RelD])
      rw [hx]
      simp [builtin, Builtin.len_, run_underlying hu', goInt]
    · cases h
  · -- cap
    unfold capEff at h
    split at h
    rotate_left
    · cases h
    rename_i x t
    obtain ⟨p, hp, rfl⟩ := map_one hal
    rw [args_eq hp, types_eq htl] at hx
    have hu := hev p
    split at h
    · rename_i e hu'
      split at h
      · rename_i id off len k he
        rw [he] at hu
        simp only [Option.some.injEq] at h
        subst h
        obtain ⟨A, e⟩ := capD_rel hu
        refine step_pure M (v := .int .i64 (k : Nat)) ?_ (by simp only [RelD])
        rw [hx]
        simp [builtin, Builtin.cap_, run_underlying hu', e, goInt]
      · cases h
    · cases h
  · -- min
    unfold minEff at h
    split at h
    rotate_left
    · cases h
    rename_i k x k' y
    obtain ⟨p, q, hp, h1, h2⟩ := map_two hal
    rw [args_eq hp] at hx
    have hu := hev p
    have hv := hev q
    rw [h1] at hu
    rw [h2] at hv
    simp only [RelD] at hu hv
    simp only [Option.some.injEq] at h
    subst h
    refine step_pure M (v := .int k (if y < x then y else x)) ?_ (by simp only [RelD])
    rw [hx]
    simp [builtin, Builtin.min_, Builtin.min2, hu, hv]
  · -- max
    unfold maxEff at h
    split at h
    rotate_left
    · cases h
    rename_i k x k' y
    obtain ⟨p, q, hp, h1, h2⟩ := map_two hal
    rw [args_eq hp] at hx
    have hu := hev p
    have hv := hev q
    rw [h1] at hu
    rw [h2] at hv
    simp only [RelD] at hu hv
    simp only [Option.some.injEq] at h
    subst h
    refine step_pure M (v := .int k (if y > x then y else x)) ?_ (by simp only [RelD])
    rw [hx]
    simp [builtin, Builtin.max_, Builtin.max2, hu, hv]
  · -- append
    split at h
    rotate_left
    · cases h
    rename_i s x t t'
    obtain ⟨p, q, hp, rfl, rfl⟩ := map_two hal
    rw [args_eq hp, types_eq htl] at hx
    split at h
    · rename_i e e' hu hu'
      obtain ⟨v, X', h1, h2⟩ := bi_append (oty := o.type) M hrd (hev p) (hev q) hu hu' h hob hf hn
      refine ⟨_, v, X', ?_, .inl rfl, h2⟩
      rw [hx]
      exact run_v h1
    · cases h
  · -- copy
    split at h
    rotate_left
    · cases h
    rename_i s x t t'
    obtain ⟨p, q, hp, rfl, rfl⟩ := map_two hal
    rw [args_eq hp, types_eq htl] at hx
    split at h
    · rename_i e hu
      unfold copyEff at h
      have hs := hev p
      split at h
      · rename_i id off len cap he
        rw [he] at hs
        split at h
        · rename_i e' ty xs hr
          split at h
          · rename_i hg
            simp only [Bool.and_eq_true, decide_eq_true_eq] at hg
            obtain ⟨⟨hg1, hg2⟩, hg3⟩ := hg
            subst hg3
            obtain ⟨i, hi', hsz⟩ := size_info hg1 (by simpa using hg2)
            split at h
            · rename_i ys hys
              simp only [Option.some.injEq] at h
              subst h
              obtain ⟨X', h1, h2, h3, h4⟩ := s_copy (oty := o.type) (t' := t') M rd hrd hu hi' hsz hys (hev q) (hrd _ _ hr) hs
              refine ⟨_, .int .i64 ((min (List.length ys) len : Nat) : Int), X', ?_, .inl rfl, h2, h3, h4, by simp only [RelD]⟩
              rw [hx]
              exact run_v h1
            · cases h
          · cases h
        · cases h
      · cases h
    · cases h
  · -- clear
    split at h
    rotate_left
    · cases h
    rename_i s t
    obtain ⟨p, hp, rfl⟩ := map_one hal
    rw [args_eq hp, types_eq htl] at hx
    split at h
    · rename_i e hu
      unfold clearEff at h
      have hs := hev p
      split at h
      · rename_i id off len cap z he hz
        rw [he] at hs
        split at h
        · rename_i e' ty xs hr
          split at h
          · rename_i hg
            simp only [Bool.and_eq_true, decide_eq_true_eq] at hg
            obtain ⟨⟨hg1, hg2⟩, hg3⟩ := hg
            subst hg3
            split at h
            · rename_i y hy
              simp only [Option.some.injEq] at h
              subst h
              obtain ⟨X', h1, h2, h3, h4⟩ := s_clear (oty := o.type) M rd hrd hu hz hg1 (by simpa using hg2) hy (hrd _ _ hr) hs
              refine ⟨_, .tuple #[], X', ?_, .inl rfl, h2, h3, h4, by simp only [RelD]; rfl⟩
              rw [hx]
              exact run_v h1
            · cases h
          · cases h
        · cases h
      · cases h
    · cases h
  · cases h

theorem op_builtin (M : Mem b X) (hev : ∀ x, RelD X (ev x) (va x)) (hrd : ∀ id r, rd id = some r → hget X.H id = some r) {c : Call} {B : Builtin} (ho : o.op = .call c) (hc : c.callee = .builtin B)
    (h : opEff P rd nid sp o ev = some E) (hob : ∀ p ∈ E.obl, p) (hf : Free X nid E.allocs.length) (hn : b.n ≤ nid) : Step P b X nid o va E := by
  simp only [opEff, ho, hc] at h
  unfold bltEff at h
  split at h
  · split at h
    · exact op_in M hev hrd ho hc h hob
    · exact op_builtin0 M hev hrd ho hc h hob hf hn
  · exact op_builtin0 M hev hrd ho hc h hob hf hn

end
end Go.Proofs.YtnakmganodkliaaDoorAm

/- A call: how it begins, and what is known when it has come back. -/
set_option linter.unusedVariables false
set_option linter.unusedSimpArgs false
namespace Go.Proofs.YtnakmganodkliaaDoorAm
open Go

mutual
theorem renD_congr {n : Nat} {f g : Nat → Nat} (h : ∀ k, k < n → f k = g k) : ∀ d : D, closedD n d = true → renD f d = renD g d
  | .v _, _ | .sl _ _ _ _, _ | .arr _ _, _ | .lenv _, _ | .top, _ => rfl
  | .own id off len cap, hc => by
    simp only [closedD, decide_eq_true_eq] at hc
    simp only [renD, h id hc]
  | .ptr id i off, hc => by
    simp only [closedD, decide_eq_true_eq] at hc
    simp only [renD, h id hc]
  | .bsl id len sz, hc => by
    simp only [closedD, decide_eq_true_eq] at hc
    simp only [renD, h id hc]
  | .rptr cs, hc => by
    simp only [closedD] at hc
    simp only [renD, renDs_congr h cs hc]
  | .agg cs, hc => by
    simp only [closedD] at hc
    simp only [renD, renDs_congr h cs hc]
  | .fn _ cs, hc => by
    simp only [closedD] at hc
    simp only [renD, renDs_congr h cs hc]
  | .tup cs, hc => by
    simp only [closedD] at hc
    simp only [renD, renDs_congr h cs hc]
theorem renDs_congr {n : Nat} {f g : Nat → Nat} (h : ∀ k, k < n → f k = g k) : ∀ ds : List D, closedDs n ds = true → renDs f ds = renDs g ds
  | [], _ => rfl
  | d :: ds, hc => by
    simp only [closedDs, Bool.and_eq_true] at hc
    simp only [renDs, renD_congr h d hc.1, renDs_congr h ds hc.2]
end

theorem renRow_congr {n : Nat} {f g : Nat → Nat} (h : ∀ k, k < n → f k = g k) (r : Row) (hc : closedRow n r = true) : renRow f r = renRow g r := by
  cases r with
  | box ty cs => simp only [renRow, renDs_congr h cs (by simpa [closedRow] using hc)]
  | data _ _ _ => rfl

theorem ren_cap {cap : List Nat} {nid k : Nat} (h : k < cap.length) : ren cap nid k = cap.getD k 0 := by simp [ren, h]

theorem slot_map (l : List Row) (k : Nat) : slot (l.map .live) k = match l[k]? with | some r => .live r | none => .free := by
  unfold slot
  rw [List.getD_eq_getElem?_getD, List.getElem?_map]
  cases l[k]? <;> rfl

theorem hget_map (l : List Row) (k : Nat) : hget (l.map .live) k = l[k]? := by
  unfold hget
  rw [slot_map]
  cases l[k]? <;> rfl

theorem nodupB_iff : ∀ {l : List Nat}, nodupB l = true ↔ l.Nodup
  | [] => by simp [nodupB]
  | a :: l => by simp [nodupB, nodupB_iff (l := l)]

theorem getD_mem {cap : List Nat} {k : Nat} (h : k < cap.length) : cap.getD k 0 ∈ cap := by
  rw [List.getD_eq_getElem?_getD, List.getElem?_eq_getElem h]
  exact List.getElem_mem h

theorem getD_inj {cap : List Nat} (hnd : cap.Nodup) {i j : Nat} (hi : i < cap.length) (hj : j < cap.length) (h : cap.getD i 0 = cap.getD j 0) : i = j := by
  rw [List.getD_eq_getElem?_getD, List.getD_eq_getElem?_getD, List.getElem?_eq_getElem hi, List.getElem?_eq_getElem hj] at h
  exact (List.getElem_inj hnd).1 h

/-- The rows that are lent to a call, or given over into data, become blocks that nobody writes. -/
def softS (X : Ctx) (soft : List Nat) (k : Nat) : Prop := X.S k ∨ ∃ id, id ∈ soft ∧ hget X.H id ≠ none ∧ ∃ l, X.ρ id = some l ∧ l.b = k

def capρ (X : Ctx) (cap : List Nat) (k : Nat) : Option Loc := X.ρ (cap.getD k 0)

section
variable {P : Program} {b : Beg} {X : Ctx} {cap frz lent : List Nat} {pre : List Row} {nid : Nat}

/-- The callee's beginning. -/
def begOf (X : Ctx) (cap soft : List Nat) : Beg := ⟨X.w, capρ X cap, softS X soft, cap.length⟩

def ctxOf (X : Ctx) (cap soft : List Nat) (pre : List Row) : Ctx := ⟨capρ X cap, pre.map .live, softS X soft, X.w⟩

theorem pre_some (hl : pre.length = cap.length) {k : Nat} : hget (pre.map Slot.live) k ≠ none ↔ k < cap.length := by
  rw [hget_map, ← hl]
  constructor
  · intro h
    rcases Nat.lt_or_ge k pre.length with h1 | h1
    · exact h1
    · rw [List.getElem?_eq_none h1] at h
      exact absurd rfl h
  · intro h
    rw [List.getElem?_eq_getElem h]
    simp

theorem live_lt (M : Mem b X) {id : Nat} (h : hget X.H id ≠ none) {l : Loc} (hl : X.ρ id = some l) : l.b < X.w.heap.size := by
  cases hr : hget X.H id with
  | none => exact absurd hr h
  | some r =>
    have := M.rows id r hr
    rw [hl] at this
    exact this.lt

theorem soft_heap (soft : List Nat) : ∀ k, X.S k → softS X soft k ∧ X.w.heap[k]? = X.w.heap[k]? := fun _ h => ⟨.inl h, rfl⟩

/-- What we know of a value, in the callee's numbers. -/
theorem pair_in (soft : List Nat) (hl : pre.length = cap.length) (hrows : ∀ k r, pre[k]? = some r → hget X.H (cap.getD k 0) = some (renRow (ren cap nid) r)) :
    ∀ k, Pair X (ctxOf X cap soft pre) (if k < cap.length then cap.getD k 0 else X.H.length) k := by
  intro k
  by_cases hk : k < cap.length
  · rw [if_pos hk]
    have hk' : k < pre.length := by omega
    have h1 := hrows k pre[k] (List.getElem?_eq_getElem hk')
    have h2 : slot (ctxOf X cap soft pre).H k = .live pre[k] := by
      show slot (pre.map Slot.live) k = _
      rw [slot_map, List.getElem?_eq_getElem hk']
    unfold Pair
    rw [hget_live.1 h1, h2]
    refine ⟨?_, rfl⟩
    cases pre[k] with
    | box _ _ => simp [renRow, Comp]
    | data _ _ _ => simp [renRow, Comp]
  · rw [if_neg hk]
    have : slot X.H X.H.length = .free := by simp [slot]
    unfold Pair
    rw [this]
    trivial

theorem own_in {soft : List Nat} (hp : ∀ k, Pair X (ctxOf X cap soft pre) (if k < cap.length then cap.getD k 0 else X.H.length) k) {k off len : Nat} {c : Option Nat} {u : Value} (hk : k < cap.length)
    (h : RelD X (.own (cap.getD k 0) off len c) u) : RelD (ctxOf X cap soft pre) (.own k off len c) u := by
  have := relD_pair (h := fun i => i) hp (D.own k off len c) u (.inl (soft_heap _)) (by
    simp only [renD]
    rw [if_pos hk]
    exact h)
  simpa only [renD] using this

theorem ptr_in {soft : List Nat} (hp : ∀ k, Pair X (ctxOf X cap soft pre) (if k < cap.length then cap.getD k 0 else X.H.length) k) {k i off : Nat} {u : Value} (hk : k < cap.length)
    (h : RelD X (.ptr (cap.getD k 0) i off) u) : RelD (ctxOf X cap soft pre) (.ptr k i off) u := by
  have := relD_pair (h := fun i => i) hp (D.ptr k i off) u (.inl (soft_heap _)) (by
    simp only [renD]
    rw [if_pos hk]
    exact h)
  simpa only [renD] using this

theorem bsl_in {soft : List Nat} (hp : ∀ k, Pair X (ctxOf X cap soft pre) (if k < cap.length then cap.getD k 0 else X.H.length) k) {k len sz : Nat} {u : Value} (hk : k < cap.length)
    (h : RelD X (.bsl (cap.getD k 0) len sz) u) : RelD (ctxOf X cap soft pre) (.bsl k len sz) u := by
  have := relD_pair (h := fun i => i) hp (D.bsl k len sz) u (.inl (soft_heap _)) (by
    simp only [renD]
    rw [if_pos hk]
    exact h)
  simpa only [renD] using this

/-- A box that is lent, as memory that is only read. -/
theorem lent_box (M : Mem b X) {soft : List Nat} {id i off : Nat} {u : Value} (hs : id ∈ soft) {bt : TypeId} {cs : List D} (hr : hget X.H id = some (.box bt cs)) (h : RelD X (.ptr id i off) u) :
    ∃ a us, u = .pointer (some a) ∧ RelDs X (cs.drop off) us ∧ At (softS X soft) X.w (some a) us := by
  obtain ⟨l, acs, ty, hρ, e, hb, hcs, h0, us, e1, h1, _⟩ := ptr_cells M h hr
  subst e1
  refine ⟨⟨l.b, l.o + off, none⟩, us.drop off, e, relDs_drop off h1, ?_⟩
  intro j v hj
  refine ⟨_, rfl, ?_, ?_⟩
  · exact .inr ⟨id, hs, by rw [hr]; simp, l, hρ, rfl⟩
  · rw [add_plain, h0]
    rw [List.getElem?_drop] at hj
    unfold World.cell?
    simp only [hb]
    simpa using hj

theorem mem_callee (M : Mem b X) (hl : pre.length = cap.length) (hnd : (cap ++ frz).Nodup) (hcl : ∀ i ∈ cap, i ∉ lent) (hclosed : pre.all (closedRow cap.length) = true)
    (hrows : ∀ k r, pre[k]? = some r → hget X.H (cap.getD k 0) = some (renRow (ren cap nid) r)) :
    Mem (begOf X cap (lent ++ frz)) (ctxOf X cap (lent ++ frz) pre) := by
  have hlive : ∀ k, k < cap.length → hget X.H (cap.getD k 0) ≠ none := by
    intro k hk
    have hk' : k < pre.length := by omega
    rw [hrows k pre[k] (List.getElem?_eq_getElem hk')]
    simp
  have hsoft : ∀ k, k < cap.length → cap.getD k 0 ∉ lent ++ frz := by
    intro k hk hm
    have hm1 := getD_mem hk
    rcases List.mem_append.1 hm with h | h
    · exact hcl _ hm1 h
    · exact (List.nodup_append.1 hnd).2.2 _ hm1 _ h rfl
  refine ⟨rfl, rfl, rfl, Nat.le_refl _, ?_, ?_, ?_, ?_, fun _ _ _ => rfl, ?_, fun _ _ _ => rfl, fun _ h => h, fun _ h => .inl h, M.glob.le (soft_heap _)⟩
  · intro i j p q hi hj hp hq hpq
    have hi' := (pre_some hl).1 hi
    have hj' := (pre_some hl).1 hj
    exact getD_inj (List.nodup_append.1 hnd).1 hi' hj' (M.inj _ _ _ _ (hlive i hi') (hlive j hj') hp hq hpq)
  · intro id r hr
    have hid : id < cap.length := (pre_some hl).1 (by show hget (ctxOf X cap (lent ++ frz) pre).H id ≠ none; rw [hr]; simp)
    have hr' : pre[id]? = some r := by rw [← hget_map]; exact hr
    have hrow := M.rows _ _ (hrows id r hr')
    have hcr : closedRow cap.length r = true := by
      rw [List.all_eq_true] at hclosed
      exact hclosed r (List.mem_of_getElem? hr')
    show RelRow _ r (X.ρ (cap.getD id 0))
    cases hρ : X.ρ (cap.getD id 0) with
    | none =>
      rw [hρ] at hrow
      cases r with
      | box _ _ => exact hrow
      | data _ _ _ => exact hrow
    | some l =>
      rw [hρ] at hrow
      obtain ⟨cs, ty, h1, h2, h3⟩ := hrow
      refine ⟨cs, ty, h1, h2, ?_⟩
      cases r with
      | box bt ds =>
        obtain ⟨e, us, e1, h4, h5⟩ := h3
        refine ⟨e, us, e1, ?_, h5⟩
        rw [renDs_congr (n := cap.length) (g := fun k => if k < cap.length then cap.getD k 0 else X.H.length) (fun k hk => by rw [ren_cap hk, if_pos hk]) ds (by simpa [closedRow] using hcr)] at h4
        have := relDs_pair (h := fun i => i) (pair_in (lent ++ frz) hl hrows) ds us (.inl (soft_heap _)) h4
        rwa [renDs_id] at this
      | data e t xs =>
        obtain ⟨e1, us, h4, h5, h6⟩ := h3
        exact ⟨e1, us, Reps_mono (RelE_mono (soft_heap _) t) xs us h4, h5, h6⟩
  · intro id p hid hp hS
    have hid' := (pre_some hl).1 hid
    rcases hS with hS | ⟨i, hi, hi2, l, hl1, hl2⟩
    · exact M.sep _ p (hlive id hid') hp hS
    · have := M.inj _ _ _ _ (hlive id hid') hi2 hp hl1 hl2.symm
      rw [← this] at hi
      exact hsoft id hid' hi
  · intro k hk
    rcases hk with hk | ⟨i, hi, hi2, l, hl1, hl2⟩
    · exact M.stab k hk
    · rw [← hl2]
      exact live_lt M hi2 hl1
  · intro id p hid hp
    exact .inr ⟨id, p, (pre_some hl).1 hid, hp, rfl⟩

theorem fit_own_ro (M : Mem b X) {rd : Nat → Option Row} (hrd : ∀ id r, rd id = some r → hget X.H id = some r) {soft : List Nat} {id off len : Nat} {c : Option Nat} {t' : Ty} {xs' xs : List t'.El} {u : Value}
    (hs : id ∈ soft) (hr : rowData rd id off len t' = some xs) (he : xs = xs') (h : RelD X (.own id off len c) u) : RelD (ctxOf X cap soft pre) (.sl false false t' xs') u := by
  obtain ⟨e, ys, hr1, hx⟩ := rowData_some hr
  subst hx
  subst he
  have hl := hrd _ _ hr1
  obtain ⟨A, c', us', e1, h1, h2, h3, h4, h5⟩ := own_data (S' := softS X soft) M (fun _ h => .inl h) hl (fun l hl' => .inr ⟨id, hs, by rw [hl]; simp, l, hl', rfl⟩) h
  simp only [RelD]
  exact ⟨A, c', us', e1, h1, h2, by simp, by simp, Reps_mono (RelE_mono (soft_heap soft) t') _ _ h3, h4⟩

mutual
theorem fit_rel (M : Mem b X) {rd : Nat → Option Row} (hrd : ∀ id r, rd id = some r → hget X.H id = some r) (soft : List Nat) (hl : pre.length = cap.length)
    (hrows : ∀ k r, pre[k]? = some r → hget X.H (cap.getD k 0) = some (renRow (ren cap nid) r)) :
    ∀ (d e : D) (u : Value) (ps : List Prop), fit rd (ren cap nid) soft d e = some ps → (∀ p ∈ ps, p) → closedD cap.length e = true → RelD X d u → RelD (ctxOf X cap soft pre) e u := by
  intro d e u ps h hps hce hr
  unfold fit at h
  split at h
  · simp only [Option.some.injEq] at h
    subst h
    have := hps _ (List.mem_singleton.2 rfl)
    subst this
    simpa only [RelD] using hr
  · simp only [Option.some.injEq] at h
    subst h
    have := hps _ (List.mem_singleton.2 rfl)
    subst this
    simp only [RelD] at hr ⊢
    exact ⟨none, 0, [], hr, Nat.le_refl _, fun _ => rfl, by simp, by simp, rfl, fun j u hj => by simp at hj⟩
  · split at h
    · rename_i ht
      subst ht
      simp only [Option.some.injEq] at h
      subst h
      have := hps _ (List.mem_singleton.2 rfl)
      subst this
      simp only [RelD] at hr ⊢
      obtain ⟨A, c, us, e, h1, h2, _, _, h5, h6⟩ := hr
      exact ⟨A, c, us, e, h1, h2, by simp, by simp, Reps_mono (RelE_mono (soft_heap soft) _) _ us h5, At_mono (soft_heap soft) h6⟩
    · cases h
  · split at h
    · rename_i ht
      subst ht
      simp only [Option.some.injEq] at h
      subst h
      have := hps _ (List.mem_singleton.2 rfl)
      subst this
      simp only [RelD] at hr ⊢
      obtain ⟨A, c, us, e, h1, h2, h3, _, h5, h6⟩ := hr
      exact ⟨A, c, us, e, h1, h2, h3, by simp, Reps_mono (RelE_mono (soft_heap soft) _) _ us h5, At_mono (soft_heap soft) h6⟩
    · cases h
  · split at h
    · rename_i hs
      split at h
      · rename_i xs hx
        simp only [Option.some.injEq] at h
        subst h
        exact fit_own_ro M hrd (by simpa using hs) hx (hps _ (List.mem_singleton.2 rfl)) hr
      · cases h
    · cases h
  · split at h
    · cases h
    · split at h
      all_goals split at h
      all_goals first
        | (cases h; done)
        | (simp only [Option.some.injEq] at h
           subst h
           simp only [List.mem_cons, List.not_mem_nil, or_false, forall_eq_or_imp, forall_eq] at hps
           simp only [closedD, decide_eq_true_eq] at hce
           have hp := pair_in (X := X) soft hl hrows
           have hid := hps.1
           rw [ren_cap hce] at hid
           subst hid
           obtain ⟨_, h2, h3⟩ := hps
           first
             | (subst h2; subst h3; exact own_in hp hce hr)
             | (obtain ⟨h3, h4⟩ := h3; subst h2; subst h3; subst h4; exact own_in hp hce hr))
  · split at h
    · rename_i ht
      subst ht
      simp only [Option.some.injEq] at h
      subst h
      have := hps _ (List.mem_singleton.2 rfl)
      subst this
      simp only [RelD] at hr ⊢
      obtain ⟨us, e, h1⟩ := hr
      exact ⟨us, e, Reps_mono (RelE_mono (soft_heap soft) _) _ us h1⟩
    · cases h
  · simp only [Option.some.injEq] at h
    subst h
    simp only [List.mem_cons, List.not_mem_nil, or_false, forall_eq_or_imp, forall_eq] at hps
    simp only [closedD, decide_eq_true_eq] at hce
    have hp := pair_in (X := X) soft hl hrows
    have hid := hps.1
    rw [ren_cap hce] at hid
    subst hid
    obtain ⟨_, h2, h3⟩ := hps
    subst h2
    subst h3
    exact ptr_in hp hce hr
  · split at h
    · cases h
    · simp only [Option.some.injEq] at h
      subst h
      simp only [List.mem_cons, List.not_mem_nil, or_false, forall_eq_or_imp, forall_eq] at hps
      simp only [closedD, decide_eq_true_eq] at hce
      have hp := pair_in (X := X) soft hl hrows
      have hid := hps.1
      rw [ren_cap hce] at hid
      subst hid
      obtain ⟨_, h2, h3⟩ := hps
      subst h2
      subst h3
      exact bsl_in hp hce hr
  · rename_i id i off cs'
    split at h
    · rename_i hs
      split at h
      · rename_i bt cs hx
        simp only [closedD] at hce
        obtain ⟨a, us, e, h1, h2⟩ := lent_box M (by simpa using hs) (hrd _ _ hx) hr
        simp only [RelD]
        exact ⟨a, us, e, fits_rel M hrd soft hl hrows _ cs' us ps h hps hce h1, h2⟩
      · cases h
    · cases h
  · rename_i cs cs'
    simp only [closedD] at hce
    simp only [RelD] at hr ⊢
    obtain ⟨us, e, h1⟩ := hr
    exact ⟨us, e, fits_rel M hrd soft hl hrows cs cs' us ps h hps hce h1⟩
  · rename_i g cs g' cs'
    split at h
    · rename_i hg
      subst hg
      simp only [closedD] at hce
      simp only [RelD] at hr ⊢
      obtain ⟨us, e, h1⟩ := hr
      exact ⟨us, e, fits_rel M hrd soft hl hrows cs cs' us ps h hps hce h1⟩
    · cases h
  · rename_i cs cs'
    simp only [closedD] at hce
    simp only [RelD] at hr ⊢
    obtain ⟨a, us, e, h1, h2⟩ := hr
    exact ⟨a, us, e, fits_rel M hrd soft hl hrows cs cs' us ps h hps hce h1, At_mono (soft_heap soft) h2⟩
  · cases h
termination_by _ e => SizeOf.sizeOf e
theorem fits_rel (M : Mem b X) {rd : Nat → Option Row} (hrd : ∀ id r, rd id = some r → hget X.H id = some r) (soft : List Nat) (hl : pre.length = cap.length)
    (hrows : ∀ k r, pre[k]? = some r → hget X.H (cap.getD k 0) = some (renRow (ren cap nid) r)) :
    ∀ (ds es : List D) (us : List Value) (ps : List Prop), fits rd (ren cap nid) soft ds es = some ps → (∀ p ∈ ps, p) → closedDs cap.length es = true → RelDs X ds us → RelDs (ctxOf X cap soft pre) es us
  | [], [], us, ps, h, hps, hce, hr => by simpa only [RelDs] using hr
  | d :: ds, e :: es, us, ps, h, hps, hce, hr => by
    simp only [fits] at h
    split at h
    · rename_i p q hp hq
      simp only [Option.some.injEq] at h
      subst h
      simp only [closedDs, Bool.and_eq_true] at hce
      simp only [RelDs] at hr ⊢
      obtain ⟨u, us', e1, h1, h2⟩ := hr
      exact ⟨u, us', e1, fit_rel M hrd soft hl hrows d e u p hp (fun x hx => hps x (List.mem_append_left _ hx)) hce.1 h1,
        fits_rel M hrd soft hl hrows ds es us' q hq (fun x hx => hps x (List.mem_append_right _ hx)) hce.2 h2⟩
    · cases h
  | [], _ :: _, us, ps, h, _, _, _ => by simp [fits] at h
  | _ :: _, [], us, ps, h, _, _, _ => by simp [fits] at h
termination_by _ es => SizeOf.sizeOf es
end

end
end Go.Proofs.YtnakmganodkliaaDoorAm

/- A call has come back: what is known then. -/
set_option linter.unusedVariables false
set_option linter.unusedSimpArgs false
namespace Go.Proofs.YtnakmganodkliaaDoorAm
open Go

theorem slot_setWrites_mem : ∀ (ws : List (Nat × Option Row)) (H : Heap) {id : Nat} {r : Option Row}, (ws.map Prod.fst).Nodup → (id, r) ∈ ws → id < H.length → slot (setWrites H ws) id = slotOf r
  | [], _, _, _, _, hm, _ => by simp at hm
  | (i, r0) :: ws, H, id', r, hnd, hm, hl => by
    simp only [List.map_cons, List.nodup_cons] at hnd
    simp only [setWrites]
    rcases List.mem_cons.1 hm with h | h
    · cases h
      rw [slot_setWrites ws _ _ (fun p hp e => hnd.1 (by rw [← e]; exact List.mem_map_of_mem hp)), slot_set]
      simp [hl]
    · exact slot_setWrites_mem ws _ hnd.2 h (by simpa using hl)

theorem setAllocs_length : ∀ (rs : List Row) (H : Heap) (n : Nat), (setAllocs H n rs).length = H.length
  | [], _, _ => rfl
  | r :: rs, H, n => by simp only [setAllocs]; rw [setAllocs_length rs]; simp

theorem slot_setAllocs_out : ∀ (rs : List Row) (H : Heap) (n : Nat) {id : Nat}, (id < n ∨ n + rs.length ≤ id) → slot (setAllocs H n rs) id = slot H id
  | [], _, _, _, _ => rfl
  | r :: rs, H, n, id, h => by
    simp only [setAllocs]
    rw [slot_setAllocs_out rs _ (n + 1) (by simp at h; omega), slot_set, if_neg (by simp at h; omega)]

theorem slot_setAllocs_in : ∀ (rs : List Row) (H : Heap) (n : Nat) {j : Nat} {r : Row}, rs[j]? = some r → n + j < H.length → slot (setAllocs H n rs) (n + j) = .live r
  | [], _, _, _, _, h, _ => by simp at h
  | r0 :: rs, H, n, 0, r, h, hl => by
    simp only [List.getElem?_cons_zero, Option.some.injEq] at h
    subst h
    simp only [setAllocs]
    rw [slot_setAllocs_out rs _ (n + 1) (by omega), slot_set]
    simp at hl ⊢
    omega
  | r0 :: rs, H, n, j + 1, r, h, hl => by
    simp only [List.getElem?_cons_succ] at h
    simp only [setAllocs]
    have := slot_setAllocs_in rs (H.set n (.live r0)) (n + 1) h (by simp; omega)
    rw [show n + (j + 1) = n + 1 + j by omega]
    exact this

theorem comp_ren {f : Nat → Nat} {r r' : Row} (h : Comp r r') : Comp (renRow f r) (renRow f r') := by
  cases r <;> cases r' <;> simp_all [renRow, Comp]

theorem comp_self_ren (f : Nat → Nat) (r : Row) : Comp r (renRow f r) := by
  cases r <;> simp [renRow, Comp]

theorem mem_zip_fst {α β : Type} {l : List α} {l' : List β} (h : l.length = l'.length) : (l.zip l').map Prod.fst = l := List.map_fst_zip (by omega)

section
variable {P : Program} {b : Beg} {X : Ctx} {cap frz lent : List Nat} {pre allocs : List Row} {post : List (Option Row)} {nid : Nat}

/-- The heap when the call has come back. -/
def backH (X : Ctx) (cap frz : List Nat) (nid : Nat) (post : List (Option Row)) (allocs : List Row) : Heap :=
  setWrites (setAllocs X.H nid (allocs.map (renRow (ren cap nid)))) (cap.zip (post.map (Option.map (renRow (ren cap nid)))) ++ frz.map fun i => (i, none))

def backρ (X : Ctx) (cap : List Nat) (nid : Nat) (allocs : List Row) (ρ' : Nat → Option Loc) (id : Nat) : Option Loc :=
  if nid ≤ id ∧ id < nid + allocs.length then ρ' (cap.length + (id - nid)) else X.ρ id

def backS (X : Ctx) (cap frz soft : List Nat) (S' : Nat → Prop) (k : Nat) : Prop := softS X frz k ∨ (S' k ∧ (X.w.heap.size ≤ k ∨ (begOf X cap soft).B k))

structure Back (X : Ctx) (cap frz : List Nat) (nid : Nat) (post : List (Option Row)) (allocs : List Row) : Prop where
  out : ∀ id, id ∉ cap → id ∉ frz → (id < nid ∨ nid + allocs.length ≤ id) → slot (backH X cap frz nid post allocs) id = slot X.H id
  caps : ∀ k r, k < cap.length → post[k]? = some r → slot (backH X cap frz nid post allocs) (cap.getD k 0) = slotOf (r.map (renRow (ren cap nid)))
  frzs : ∀ id, id ∈ frz → slot (backH X cap frz nid post allocs) id = .dead
  new : ∀ j r, allocs[j]? = some r → slot (backH X cap frz nid post allocs) (nid + j) = .live (renRow (ren cap nid) r)

theorem back_slots (hpl : post.length = cap.length) (hnd : (cap ++ frz).Nodup) (hcap : ∀ i ∈ cap, hget X.H i ≠ none) (hfrz : ∀ i ∈ frz, hget X.H i ≠ none) (hf : Free X nid allocs.length) : Back X cap frz nid post allocs := by
  have hlt : ∀ i, hget X.H i ≠ none → i < X.H.length ∧ (i < nid ∨ nid + allocs.length ≤ i) := by
    intro i hi
    have hs : slot X.H i ≠ .free := by
      intro e
      unfold hget at hi
      rw [e] at hi
      exact hi rfl
    refine ⟨lt_of_slot hs, ?_⟩
    rcases Nat.lt_or_ge i nid with h | h
    · exact .inl h
    · rcases Nat.lt_or_ge i (nid + allocs.length) with h2 | h2
      · exact absurd (by rw [show i = nid + (i - nid) by omega]; exact (hf (i - nid) (by omega)).1) hs
      · exact .inr h2
  have hkeys : ((cap.zip (post.map (Option.map (renRow (ren cap nid)))) ++ frz.map fun i => (i, (none : Option Row))).map Prod.fst) = cap ++ frz := by
    rw [List.map_append, mem_zip_fst (by simp [hpl]), List.map_map]
    have : (Prod.fst ∘ fun i => (i, (none : Option Row))) = fun i : Nat => i := rfl
    rw [this, List.map_id']
  have hout : ∀ id, id ∉ cap → id ∉ frz → slot (backH X cap frz nid post allocs) id = slot (setAllocs X.H nid (allocs.map (renRow (ren cap nid)))) id := by
    intro id h1 h2
    refine slot_setWrites _ _ id fun p hp e => ?_
    have hm := List.mem_map_of_mem (f := Prod.fst) hp
    rw [hkeys, e] at hm
    rcases List.mem_append.1 hm with h | h
    · exact h1 h
    · exact h2 h
  refine ⟨?_, ?_, ?_, ?_⟩
  · intro id h1 h2 h3
    rw [hout id h1 h2]
    exact slot_setAllocs_out _ _ _ (by simpa using h3)
  · intro k r hk hr
    refine slot_setWrites_mem _ _ (by rw [hkeys]; exact hnd) (List.mem_append_left _ ?_) (by rw [setAllocs_length]; exact (hlt _ (hcap _ (getD_mem hk))).1)
    refine List.mem_of_getElem? (i := k) ?_
    rw [List.getElem?_zip_eq_some]
    rw [List.getD_eq_getElem?_getD, List.getElem?_eq_getElem hk]
    exact ⟨rfl, by simp [hr]⟩
  · intro id h
    exact slot_setWrites_mem _ _ (r := none) (by rw [hkeys]; exact hnd) (List.mem_append_right _ (List.mem_map_of_mem (f := fun i => (i, none)) h)) (by rw [setAllocs_length]; exact (hlt _ (hfrz _ h)).1)
  · intro j r hj
    have hjl : j < allocs.length := (List.getElem?_eq_some_iff.1 hj).1
    have hfree := hf j hjl
    have hno : ∀ i, hget X.H i ≠ none → i ≠ nid + j := by
      intro i hi e
      have := (hlt i hi).2
      omega
    rw [hout _ (fun h => hno _ (hcap _ h) rfl) (fun h => hno _ (hfrz _ h) rfl)]
    exact slot_setAllocs_in _ _ _ (by simp [hj]) hfree.2

theorem slot_post (post : List (Option Row)) (allocs : List Row) {k : Nat} {r : Option Row} (h : post[k]? = some r) : slot (post.map slotOf ++ allocs.map .live) k = slotOf r := by
  unfold slot
  have hk : k < post.length := (List.getElem?_eq_some_iff.1 h).1
  rw [List.getD_eq_getElem?_getD, List.getElem?_append_left (by simpa using hk), List.getElem?_map, h]
  rfl

theorem slot_new (post : List (Option Row)) (allocs : List Row) (j : Nat) : slot (post.map slotOf ++ allocs.map .live) (post.length + j) = match allocs[j]? with | some r => .live r | none => .free := by
  unfold slot
  rw [List.getD_eq_getElem?_getD, List.getElem?_append_right (by simp)]
  simp only [List.length_map, Nat.add_sub_cancel_left, List.getElem?_map]
  cases allocs[j]? <;> rfl

theorem mem_called (M : Mem b X) (hl : pre.length = cap.length) (hpl : post.length = cap.length) (hnd : (cap ++ frz).Nodup) (hcl : ∀ i ∈ cap, i ∉ lent)
    (hrows : ∀ k r, pre[k]? = some r → hget X.H (cap.getD k 0) = some (renRow (ren cap nid) r)) (hfrz : ∀ i ∈ frz, hget X.H i ≠ none)
    (hshape : ∀ (k : Nat) (r r' : Row), pre[k]? = some r → post[k]? = some (some r') → Comp r r')
    (hf : Free X nid allocs.length) (hn : b.n ≤ nid) {val : D} {v : Value} {ρ' : Nat → Option Loc} {S' : Nat → Prop} {w' : World}
    (hflat : lent = [] ∨ (flatD val = true ∧ (∀ r ∈ allocs, flatRow r = true) ∧ ∀ r, some r ∈ post → flatRow r = true))
    (M1 : Mem (begOf X cap (lent ++ frz)) ⟨ρ', post.map slotOf ++ allocs.map .live, S', w'⟩) (hv : RelD ⟨ρ', post.map slotOf ++ allocs.map .live, S', w'⟩ val v) :
    Mem b ⟨backρ X cap nid allocs ρ', backH X cap frz nid post allocs, backS X cap frz (lent ++ frz) S', w'⟩ ∧
      Le X ⟨backρ X cap nid allocs ρ', backH X cap frz nid post allocs, backS X cap frz (lent ++ frz) S', w'⟩ ∧
      RelD ⟨backρ X cap nid allocs ρ', backH X cap frz nid post allocs, backS X cap frz (lent ++ frz) S', w'⟩ (renD (ren cap nid) val) v := by
  generalize hX1 : (⟨ρ', post.map slotOf ++ allocs.map .live, S', w'⟩ : Ctx) = X1 at M1 hv
  generalize hX2 : (⟨backρ X cap nid allocs ρ', backH X cap frz nid post allocs, backS X cap frz (lent ++ frz) S', w'⟩ : Ctx) = X2
  have e1H : X1.H = post.map slotOf ++ allocs.map .live := by rw [← hX1]
  have e1ρ : X1.ρ = ρ' := by rw [← hX1]
  have e1S : X1.S = S' := by rw [← hX1]
  have e1w : X1.w = w' := by rw [← hX1]
  have e2H : X2.H = backH X cap frz nid post allocs := by rw [← hX2]
  have e2ρ : X2.ρ = backρ X cap nid allocs ρ' := by rw [← hX2]
  have e2S : X2.S = backS X cap frz (lent ++ frz) S' := by rw [← hX2]
  have e2w : X2.w = w' := by rw [← hX2]
  clear hX1 hX2
  have hcapL : ∀ k, k < cap.length → hget X.H (cap.getD k 0) ≠ none := by
    intro k hk
    have hk' : k < pre.length := by omega
    rw [hrows k pre[k] (List.getElem?_eq_getElem hk')]
    simp
  have hcapM : ∀ i ∈ cap, hget X.H i ≠ none := by
    intro i hi
    obtain ⟨k, hk, rfl⟩ := List.getElem_of_mem hi
    have := hcapL k hk
    rwa [List.getD_eq_getElem?_getD, List.getElem?_eq_getElem hk] at this
  have B := back_slots (post := post) hpl hnd hcapM hfrz hf
  have hnodup := List.nodup_append.1 hnd
  have hrange : ∀ i, hget X.H i ≠ none → ¬ (nid ≤ i ∧ i < nid + allocs.length) := by
    intro i hi hc
    have := (hf (i - nid) (by omega)).1
    rw [show nid + (i - nid) = i by omega] at this
    unfold hget at hi
    rw [this] at hi
    exact hi rfl
  have hρold : ∀ i, hget X.H i ≠ none → X2.ρ i = X.ρ i := by
    intro i hi
    rw [e2ρ]
    unfold backρ
    rw [if_neg (hrange i hi)]
  have hρnew : ∀ j, j < allocs.length → X2.ρ (nid + j) = X1.ρ (cap.length + j) := by
    intro j hj
    rw [e2ρ, e1ρ]
    unfold backρ
    rw [if_pos (by omega)]
    congr 1
    omega
  -- what there is
  have classes : ∀ id r, hget X2.H id = some r →
      (hget X.H id = some r ∧ id ∉ cap ∧ id ∉ frz) ∨ (∃ k r0, k < cap.length ∧ id = cap.getD k 0 ∧ post[k]? = some (some r0) ∧ r = renRow (ren cap nid) r0) ∨
      (∃ j r0, allocs[j]? = some r0 ∧ id = nid + j ∧ r = renRow (ren cap nid) r0) := by
    intro id r hr
    rw [e2H] at hr
    have hs := hget_live.1 hr
    by_cases h1 : id ∈ cap
    · obtain ⟨k, hk, he⟩ := List.getElem_of_mem h1
      have he' : id = cap.getD k 0 := by rw [List.getD_eq_getElem?_getD, List.getElem?_eq_getElem hk]; exact he.symm
      have hk' : k < post.length := by omega
      have := B.caps k post[k] hk (List.getElem?_eq_getElem hk')
      rw [← he', hs] at this
      cases hp : post[k] with
      | none => rw [hp] at this; simp [slotOf] at this
      | some r0 =>
        rw [hp] at this
        simp only [Option.map_some, slotOf, Slot.live.injEq] at this
        exact .inr (.inl ⟨k, r0, hk, he', by rw [List.getElem?_eq_getElem hk', hp], this⟩)
    · by_cases h2 : id ∈ frz
      · have := B.frzs id h2
        rw [hs] at this
        simp at this
      · by_cases h3 : id < nid ∨ nid + allocs.length ≤ id
        · have := B.out id h1 h2 h3
          rw [hs] at this
          exact .inl ⟨hget_live.2 this.symm, h1, h2⟩
        · have hj : id - nid < allocs.length := by omega
          have := B.new (id - nid) allocs[id - nid] (List.getElem?_eq_getElem hj)
          rw [show nid + (id - nid) = id by omega, hs] at this
          simp only [Slot.live.injEq] at this
          exact .inr (.inr ⟨id - nid, _, List.getElem?_eq_getElem hj, by omega, this⟩)
  have h1cap : ∀ k r0, post[k]? = some (some r0) → hget X1.H k = some r0 := by
    intro k r0 h
    rw [hget_live, e1H]
    exact slot_post post allocs h
  have h1new : ∀ j r0, allocs[j]? = some r0 → hget X1.H (cap.length + j) = some r0 := by
    intro j r0 h
    rw [hget_live, e1H, ← hpl, slot_new, h]
  have h1ρ : ∀ k r0, k < cap.length → post[k]? = some (some r0) → X1.ρ k = X.ρ (cap.getD k 0) := by
    intro k r0 hk h
    exact M1.old k hk (by rw [h1cap k r0 h]; simp)
  -- blocks of the rows that were handed over
  have hBiff : ∀ k, (begOf X cap (lent ++ frz)).B k → ∃ i l, i ∈ cap ∧ hget X.H i ≠ none ∧ X.ρ i = some l ∧ l.b = k := by
    rintro k ⟨id, l, hid, hρ, hb⟩
    exact ⟨cap.getD id 0, l, getD_mem hid, hcapL id hid, hρ, hb⟩
  have hnotB : ∀ i l, hget X.H i ≠ none → i ∉ cap → X.ρ i = some l → ¬ (begOf X cap (lent ++ frz)).B l.b := by
    intro i l hi hic hρ hB
    obtain ⟨i', l', h1, h2, h3, h4⟩ := hBiff _ hB
    have := M.inj i i' l l' hi h2 hρ h3 h4.symm
    exact hic (this ▸ h1)
  have hnewblk : ∀ j r0 p, allocs[j]? = some r0 → X1.ρ (cap.length + j) = some p → X.w.heap.size ≤ p.b ∨ (begOf X cap (lent ++ frz)).B p.b := by
    intro j r0 p hj hp
    exact M1.fresh _ p (by rw [h1new j r0 hj]; simp) hp
  have hkeep : ∀ k, k < X.w.heap.size → ¬ (begOf X cap (lent ++ frz)).B k → X2.w.heap[k]? = X.w.heap[k]? := by
    intro k hk hB
    rw [e2w, ← e1w]
    exact M1.keep k hk hB
  have hsz : X.w.heap.size ≤ X2.w.heap.size := by
    rw [e2w, ← e1w]
    exact M1.size
  have hstX : ∀ k, X.S k → X2.S k ∧ X2.w.heap[k]? = X.w.heap[k]? := by
    intro k hk
    refine ⟨by rw [e2S]; exact .inl (.inl hk), hkeep k (M.stab k hk) ?_⟩
    intro hB
    obtain ⟨i', l', h1, h2, h3, h4⟩ := hBiff _ hB
    exact M.sep i' l' h2 h3 (h4 ▸ hk)
  have hstab1 : lent = [] → ∀ k, X1.S k → X2.S k ∧ X2.w.heap[k]? = X1.w.heap[k]? := by
    intro h k hk
    refine ⟨?_, by rw [e2w, e1w]⟩
    rw [e2S]
    rcases M1.sup k hk with h1 | h1
    · refine .inl ?_
      rw [h] at h1
      exact h1
    · exact .inr ⟨by rw [← e1S]; exact hk, h1⟩
  -- the pairs
  have hpair : ∀ id, Pair X1 X2 id (ren cap nid id) := by
    intro id
    by_cases hid : id < cap.length
    · rw [ren_cap hid]
      have hid' : id < post.length := by omega
      have h1 : slot X1.H id = slotOf post[id] := by rw [e1H]; exact slot_post post allocs (List.getElem?_eq_getElem hid')
      have h2 : slot X2.H (cap.getD id 0) = slotOf (post[id].map (renRow (ren cap nid))) := by rw [e2H]; exact B.caps id _ hid (List.getElem?_eq_getElem hid')
      unfold Pair
      rw [h1, h2]
      cases hp : post[id] with
      | none => simp [slotOf]
      | some r0 =>
        simp only [Option.map_some, slotOf]
        refine ⟨comp_self_ren _ _, ?_⟩
        rw [hρold _ (hcapL id hid)]
        exact (h1ρ id r0 hid (by rw [List.getElem?_eq_getElem hid', hp])).symm
    · obtain ⟨j, rfl⟩ : ∃ j, id = cap.length + j := ⟨id - cap.length, by omega⟩
      have hr : ren cap nid (cap.length + j) = nid + j := by
        unfold ren
        rw [if_neg hid]
        omega
      rw [hr]
      have h1 : slot X1.H (cap.length + j) = match allocs[j]? with | some r => .live r | none => .free := by rw [e1H, ← hpl]; exact slot_new post allocs j
      unfold Pair
      rw [h1]
      cases hj : allocs[j]? with
      | none => trivial
      | some r0 =>
        have h2 : slot X2.H (nid + j) = .live (renRow (ren cap nid) r0) := by rw [e2H]; exact B.new j r0 hj
        rw [h2]
        exact ⟨comp_self_ren _ _, hρnew j (List.getElem?_eq_some_iff.1 hj).1⟩
  have hpair' : ∀ id, Pair X1 X2 ((fun i => i) id) (ren cap nid id) := hpair
  have hrow1 : ∀ (r : Row) (p : Option Loc), (lent = [] ∨ flatRow r = true) → RelRow X1 r p → RelRow X2 (renRow (ren cap nid) r) p := by
    intro r p hfl hr
    cases p with
    | none => cases r <;> exact hr
    | some l =>
      obtain ⟨cs, ty, h1, h2, h3⟩ := hr
      refine ⟨cs, ty, by rw [e2w, ← e1w]; exact h1, h2, ?_⟩
      cases r with
      | box bt ds =>
        obtain ⟨e, us, e1, h4, h5⟩ := h3
        refine ⟨e, us, e1, relDs_pair hpair' ds us ?_ (by rw [renDs_id]; exact h4), h5⟩
        exact hfl.imp hstab1 (fun h => by simpa [flatRow] using h)
      | data e t xs =>
        obtain ⟨e1, us, h4, h5, h6⟩ := h3
        refine ⟨e1, us, ?_, h5, h6⟩
        rcases hfl with hfl | hfl
        · exact Reps_mono (RelE_mono (hstab1 hfl) t) xs us h4
        · exact Reps_mono (fun x us => RelE_flat t x us (by simpa [flatRow] using hfl)) xs us h4
  have hle : Le X X2 := by
    refine ⟨hstX, ?_⟩
    intro id
    unfold Pair
    cases hs : slot X.H id with
    | free => trivial
    | dead =>
      have h1 : id ∉ cap := fun h => hcapM id h (by unfold hget; rw [hs])
      have h2 : id ∉ frz := fun h => hfrz id h (by unfold hget; rw [hs])
      have h3 : id < nid ∨ nid + allocs.length ≤ id := by
        rcases Nat.lt_or_ge id nid with h | h
        · exact .inl h
        · rcases Nat.lt_or_ge id (nid + allocs.length) with h2 | h2
          · have := (hf (id - nid) (by omega)).1
            rw [show nid + (id - nid) = id by omega, hs] at this
            cases this
          · exact .inr h2
      have := B.out id h1 h2 h3
      rw [e2H, this, hs]
      trivial
    | live r =>
      have hlv : hget X.H id ≠ none := by rw [hget_live.2 hs]; simp
      by_cases h1 : id ∈ cap
      · obtain ⟨k, hk, he⟩ := List.getElem_of_mem h1
        have he' : id = cap.getD k 0 := by rw [List.getD_eq_getElem?_getD, List.getElem?_eq_getElem hk]; exact he.symm
        have hk' : k < post.length := by omega
        have hk2 : k < pre.length := by omega
        have hb := B.caps k post[k] hk (List.getElem?_eq_getElem hk')
        have hpre := hrows k pre[k] (List.getElem?_eq_getElem hk2)
        rw [← he'] at hb hpre
        rw [hget_live, hs] at hpre
        rw [e2H, hb]
        cases hp : post[k] with
        | none => simp [slotOf]
        | some r0 =>
          simp only [Option.map_some, slotOf]
          simp only [Slot.live.injEq] at hpre
          rw [hpre]
          exact ⟨comp_ren (hshape k _ r0 (List.getElem?_eq_getElem hk2) (by rw [List.getElem?_eq_getElem hk', hp])), hρold id hlv⟩
      · by_cases h2 : id ∈ frz
        · rw [e2H, B.frzs id h2]
          trivial
        · have h3 : id < nid ∨ nid + allocs.length ≤ id := by
            have := hrange id hlv
            omega
          rw [e2H, B.out id h1 h2 h3, hs]
          exact ⟨Comp.refl r, hρold id hlv⟩
  refine ⟨?_, hle, ?_⟩
  rotate_left
  · refine relD_pair hpair' val v ?_ (by rw [renD_id]; exact hv)
    exact hflat.imp hstab1 (fun h => h.1)
  have hnewX : ∀ j r0 p, allocs[j]? = some r0 → X2.ρ (nid + j) = some p → X1.ρ (cap.length + j) = some p := by
    intro j r0 p hj hp
    rw [← hρnew j (List.getElem?_eq_some_iff.1 hj).1]
    exact hp
  refine ⟨?_, ?_, ?_, Nat.le_trans M.size hsz, ?_, ?_, ?_, ?_, ?_, ?_, ?_, ?_, ?_, ?_⟩
  · rw [e2w, ← e1w, M1.os]; exact M.os
  · rw [e2w, ← e1w, M1.tape]; exact M.tape
  · rw [e2w, ← e1w, M1.output]; exact M.output
  · -- inj
    have key : ∀ i j p q ri rj, hget X2.H i = some ri → hget X2.H j = some rj → X2.ρ i = some p → X2.ρ j = some q → p.b = q.b → hget X.H i ≠ none → hget X.H j ≠ none → i = j := by
      intro i j p q ri rj _ _ hp hq hpq hi hj
      rw [hρold i hi] at hp
      rw [hρold j hj] at hq
      exact M.inj i j p q hi hj hp hq hpq
    have oldnew : ∀ i p j r0 q, hget X.H i ≠ none → (i ∈ cap → ∃ k r1, k < cap.length ∧ i = cap.getD k 0 ∧ post[k]? = some (some r1)) → X.ρ i = some p → allocs[j]? = some r0 → X2.ρ (nid + j) = some q → p.b ≠ q.b := by
      intro i p j r0 q hi hic hp hj hq e
      have hq1 := hnewX j r0 q hj hq
      by_cases hc : i ∈ cap
      · obtain ⟨k, r1, hk, he, hpk⟩ := hic hc
        have hp1 : X1.ρ k = some p := by rw [h1ρ k r1 hk hpk, ← he]; exact hp
        have := M1.inj k (cap.length + j) p q (by rw [h1cap k r1 hpk]; simp) (by rw [h1new j r0 hj]; simp) hp1 hq1 e
        omega
      · rcases hnewblk j r0 q hj hq1 with h | h
        · have := live_lt M hi hp
          omega
        · exact hnotB i p hi hc hp (e ▸ h)
    have toOld : ∀ i ri, hget X2.H i = some ri → (hget X.H i ≠ none ∧ (i ∈ cap → ∃ k r1, k < cap.length ∧ i = cap.getD k 0 ∧ post[k]? = some (some r1))) ∨ ∃ j r0, allocs[j]? = some r0 ∧ i = nid + j := by
      intro i ri hi
      rcases classes i ri hi with ⟨h, h1, _⟩ | ⟨k, r0, h1, h2, h3, _⟩ | ⟨j, r0, h1, h2, _⟩
      · exact .inl ⟨by rw [h]; simp, fun hc => absurd hc h1⟩
      · exact .inl ⟨by rw [h2]; exact hcapL k h1, fun _ => ⟨k, r0, h1, h2, h3⟩⟩
      · exact .inr ⟨j, r0, h1, h2⟩
    intro i j p q hi hj hp hq hpq
    cases hri : hget X2.H i with
    | none => exact absurd hri hi
    | some ri =>
    cases hrj : hget X2.H j with
    | none => exact absurd hrj hj
    | some rj =>
    rcases toOld i ri hri with ⟨h1, h2⟩ | ⟨ji, r0, h1, h2⟩
    · rcases toOld j rj hrj with ⟨h3, h4⟩ | ⟨jj, r1, h3, h4⟩
      · exact key i j p q ri rj hri hrj hp hq hpq h1 h3
      · rw [hρold i h1] at hp
        subst h4
        exact absurd hpq (oldnew i p jj r1 q h1 h2 hp h3 hq)
    · rcases toOld j rj hrj with ⟨h3, h4⟩ | ⟨jj, r1, h3, h4⟩
      · rw [hρold j h3] at hq
        subst h2
        exact absurd hpq.symm (oldnew j q ji r0 p h3 h4 hq h1 hp)
      · subst h2
        subst h4
        have a1 := hnewX ji r0 p h1 hp
        have a2 := hnewX jj r1 q h3 hq
        have := M1.inj _ _ p q (by rw [h1new ji r0 h1]; simp) (by rw [h1new jj r1 h3]; simp) a1 a2 hpq
        omega
  · -- rows
    intro id r hr
    rcases classes id r hr with ⟨h, h1, h2⟩ | ⟨k, r0, h1, h2, h3, h4⟩ | ⟨j, r0, h1, h2, h3⟩
    · rw [hρold id (by rw [h]; simp)]
      refine relRow_le hle ?_ (M.rows id r h)
      intro l hl'
      exact hkeep _ (live_lt M (by rw [h]; simp) hl') (hnotB id l (by rw [h]; simp) h1 hl')
    · subst h2
      subst h4
      rw [hρold _ (hcapL k h1), ← h1ρ k r0 h1 h3]
      exact hrow1 r0 _ (hflat.imp id fun h => h.2.2 r0 (List.mem_of_getElem? h3)) (M1.rows k r0 (h1cap k r0 h3))
    · subst h2
      subst h3
      rw [hρnew j (List.getElem?_eq_some_iff.1 h1).1]
      exact hrow1 r0 _ (hflat.imp id fun h => h.2.1 r0 (List.mem_of_getElem? h1)) (M1.rows _ r0 (h1new j r0 h1))
  · -- sep
    intro id p hid hp hS
    rw [e2S] at hS
    cases hr : hget X2.H id with
    | none => exact hid hr
    | some r =>
    rcases classes id r hr with ⟨h, h1, h2⟩ | ⟨k, r0, h1, h2, h3, h4⟩ | ⟨j, r0, h1, h2, h3⟩
    · have hlv : hget X.H id ≠ none := by rw [h]; simp
      rw [hρold id hlv] at hp
      rcases hS with (hS | ⟨i, hi, hi2, l, hl1, hl2⟩) | ⟨_, hS | hS⟩
      · exact M.sep id p hlv hp hS
      · have := M.inj _ _ _ _ hlv hi2 hp hl1 hl2.symm
        exact h2 (this ▸ hi)
      · have := live_lt M hlv hp
        omega
      · exact hnotB id p hlv h1 hp hS
    · have hlv := hcapL k h1
      subst h2
      have hp0 := hp
      rw [hρold _ hlv] at hp
      rcases hS with (hS | ⟨i, hi, hi2, l, hl1, hl2⟩) | ⟨hS, _⟩
      · exact M.sep _ p hlv hp hS
      · have := M.inj _ _ _ _ hlv hi2 hp hl1 hl2.symm
        exact hnodup.2.2 _ (getD_mem h1) _ hi this
      · exact M1.sep k p (by rw [h1cap k r0 h3]; simp) (by rw [h1ρ k r0 h1 h3]; exact hp) (by rw [e1S]; exact hS)
    · subst h2
      have hp1 := hnewX j r0 p h1 hp
      rcases hS with (hS | ⟨i, hi, hi2, l, hl1, hl2⟩) | ⟨hS, _⟩
      · rcases hnewblk j r0 p h1 hp1 with hb | hb
        · have := M.stab _ hS
          omega
        · obtain ⟨i', l', g1, g2, g3, g4⟩ := hBiff _ hb
          exact M.sep i' l' g2 g3 (g4 ▸ hS)
      · rcases hnewblk j r0 p h1 hp1 with hb | hb
        · have := live_lt M hi2 hl1
          omega
        · obtain ⟨i', l', g1, g2, g3, g4⟩ := hBiff _ hb
          have := M.inj i' i l' l g2 hi2 g3 hl1 (by rw [g4, hl2])
          exact hnodup.2.2 _ g1 _ hi this
      · exact M1.sep _ p (by rw [h1new j r0 h1]; simp) hp1 (by rw [e1S]; exact hS)
  · -- stab
    intro k hk
    rw [e2S] at hk
    rcases hk with (hk | ⟨i, hi, hi2, l, hl1, hl2⟩) | ⟨hk, _⟩
    · exact Nat.lt_of_lt_of_le (M.stab k hk) hsz
    · rw [← hl2]
      exact Nat.lt_of_lt_of_le (live_lt M hi2 hl1) hsz
    · rw [e2w, ← e1w]
      exact M1.stab k (by rw [e1S]; exact hk)
  · -- keep
    intro k hk hB
    rw [← M.keep k hk hB]
    refine hkeep k (Nat.lt_of_lt_of_le hk M.size) ?_
    intro hb
    obtain ⟨i', l', g1, g2, g3, g4⟩ := hBiff _ hb
    rcases M.fresh i' l' g2 g3 with h | h
    · omega
    · exact hB (g4 ▸ h)
  · -- fresh
    intro id p hid hp
    cases hr : hget X2.H id with
    | none => exact absurd hr hid
    | some r =>
    rcases classes id r hr with ⟨h, h1, h2⟩ | ⟨k, r0, h1, h2, h3, h4⟩ | ⟨j, r0, h1, h2, h3⟩
    · rw [hρold id (by rw [h]; simp)] at hp
      exact M.fresh id p (by rw [h]; simp) hp
    · subst h2
      rw [hρold _ (hcapL k h1)] at hp
      exact M.fresh _ p (hcapL k h1) hp
    · subst h2
      rcases hnewblk j r0 p h1 (hnewX j r0 p h1 hp) with hb | hb
      · exact .inl (Nat.le_trans M.size hb)
      · obtain ⟨i', l', g1, g2, g3, g4⟩ := hBiff _ hb
        rw [← g4]
        exact M.fresh i' l' g2 g3
  · -- old
    intro id hid hlv
    cases hr : hget X2.H id with
    | none => exact absurd hr hlv
    | some r =>
    rcases classes id r hr with ⟨h, h1, h2⟩ | ⟨k, r0, h1, h2, h3, h4⟩ | ⟨j, r0, h1, h2, h3⟩
    · rw [hρold id (by rw [h]; simp)]
      exact M.old id hid (by rw [h]; simp)
    · subst h2
      rw [hρold _ (hcapL k h1)]
      exact M.old _ hid (hcapL k h1)
    · omega
  · intro k hk
    rw [e2S]
    exact .inl (.inl (M.sub k hk))
  · intro k hk
    rw [e2S] at hk
    rcases hk with (hk | ⟨i, hi, hi2, l, hl1, hl2⟩) | ⟨_, hk | hk⟩
    · exact M.sup k hk
    · rw [← hl2]
      exact .inr (M.fresh i l hi2 hl1)
    · exact .inr (.inl (Nat.le_trans M.size hk))
    · obtain ⟨i', l', g1, g2, g3, g4⟩ := hBiff _ hk
      rw [← g4]
      exact .inr (M.fresh i' l' g2 g3)
  · exact M.glob.le hle.st

end
end Go.Proofs.YtnakmganodkliaaDoorAm

/- Every operation does what is computed of it; the operations of a region in the text's order. -/
set_option linter.unusedVariables false
set_option linter.unusedSimpArgs false
namespace Go.Proofs.YtnakmganodkliaaDoorAm
open Go

theorem rowEq_all {rd : Nat → Option Row} {f : Nat → Nat} : ∀ {pre : List Row} {k0 : Nat}, (∀ p ∈ rowEq rd f k0 pre, p) → ∀ k r, pre[k]? = some r → rd (f (k0 + k)) = some (renRow f r)
  | [], _, _, k, r, h => by simp at h
  | r0 :: rs, k0, hp, 0, r, h => by
    simp only [List.getElem?_cons_zero, Option.some.injEq] at h
    subst h
    exact hp _ (by simp [rowEq])
  | r0 :: rs, k0, hp, k + 1, r, h => by
    simp only [List.getElem?_cons_succ] at h
    have := rowEq_all (k0 := k0 + 1) (fun p hm => hp p (by simp only [rowEq, List.mem_cons]; exact .inr hm)) k r h
    rwa [show k0 + (k + 1) = k0 + 1 + k by omega]

theorem shapeEq_all : ∀ {pre : List Row} {post : List (Option Row)} {qs : List Prop}, shapeEq pre post = some qs → (∀ q ∈ qs, q) →
    post.length = pre.length ∧ ∀ (k : Nat) (r r' : Row), pre[k]? = some r → post[k]? = some (some r') → Comp r r'
  | [], [], _, _, _ => ⟨rfl, fun k r r' h => by simp at h⟩
  | [], _ :: _, _, h, _ => by simp [shapeEq] at h
  | _ :: _, [], _, h, _ => by simp [shapeEq] at h
  | r0 :: rs, none :: ps, qs, h, hq => by
    have h' : shapeEq rs ps = some qs := by cases r0 <;> simpa [shapeEq] using h
    obtain ⟨h1, h2⟩ := shapeEq_all h' hq
    refine ⟨by simp [h1], fun k r r' ha hb => ?_⟩
    cases k with
    | zero => simp at hb
    | succ k => exact h2 k r r' (by simpa using ha) (by simpa using hb)
  | .box t cs :: rs, some (.box t' cs') :: ps, qs, h, hq => by
    have h' : shapeEq rs ps = some qs := by simpa [shapeEq] using h
    obtain ⟨h1, h2⟩ := shapeEq_all h' hq
    refine ⟨by simp [h1], fun k r r' ha hb => ?_⟩
    cases k with
    | zero =>
      simp at ha hb
      subst ha
      subst hb
      trivial
    | succ k => exact h2 k r r' (by simpa using ha) (by simpa using hb)
  | .data e t xs :: rs, some (.data e' t' ys) :: ps, qs, h, hq => by
    simp only [shapeEq] at h
    split at h
    · rename_i he
      rw [Option.map_eq_some_iff] at h
      obtain ⟨qs', h', rfl⟩ := h
      obtain ⟨h1, h2⟩ := shapeEq_all h' (fun q hm => hq q (List.mem_cons_of_mem _ hm))
      refine ⟨by simp [h1], fun k r r' ha hb => ?_⟩
      cases k with
      | zero =>
        simp at ha hb
        subst ha
        subst hb
        exact ⟨he.2, hq _ List.mem_cons_self⟩
      | succ k => exact h2 k r r' (by simpa using ha) (by simpa using hb)
    · cases h
  | .box _ _ :: _, some (.data _ _ _) :: _, _, h, _ => by simp [shapeEq] at h
  | .data _ _ _ :: _, some (.box _ _) :: _, _, h, _ => by simp [shapeEq] at h

section
variable {P : Program} {b : Beg} {X : Ctx}
variable {nid : Nat} {sp : Sp} {o : Oper} {E : Eff} {rd : Nat → Option Row}

/-- The machine does what was computed of the operation, whatever comes then. -/
def StepW (P : Program) (b : Beg) (X : Ctx) (nid : Nat) (o : Oper) (a : Act) (E : Eff) : Prop :=
  ∀ (K : Act → World → Prop) (Q : Exit → Act → World → Prop), (∀ X' v, Mem b X' → X'.H = setWrites (setAllocs X.H nid E.allocs) E.writes → Le X X' → RelD X' E.val v → K (a.put o.dst v) X'.w) →
    o.wp P a X.w K Q

theorem Step.wp {a : Act} (h : Step P b X nid o a.eval E) : StepW P b X nid o a E := by
  intro K Q hK
  obtain ⟨nx, v, X', h1, h2, h3, h4, h5, h6⟩ := h
  unfold Oper.wp
  rw [h1]
  rcases h2 with h2 | ⟨h2, h2'⟩
  · rw [h2, Oper.upon_value]
    exact hK X' v h3 h4 h5 h6
  · rw [h2, Oper.upon_skip, ← h2']
    exact hK X' v h3 h4 h5 h6

theorem exec_call {c : Call} {f : Operand} (ho : o.op = .call c) (hc : c.callee = .value f) {va : Operand → Value} {g : FuncId} {us : List Value} (hv : va f = .func (.func g) #[] us.toArray)
    {fn : Func} (hfn : P.funcs[g]? = some fn) (h1 : (fn.name == "runtime.NumGoroutine") = false) (h2 : fn.body.isNone = false) (w : World) :
    (execOp va o).run P w = .ok (.enter g (c.args.toList.map va ++ us).toArray) w := by
  have e : c.args.map va ++ us.toArray = (c.args.toList.map va ++ us).toArray := by
    apply Array.ext'
    simp
  simp only [execOp, ho, resolve, hc, hv, Deferred.ofValue]
  rw [Sem.run_bind]
  simp only [Sem.run_pure, invoke, callFunc]
  have h1' : fn.name ≠ "runtime.NumGoroutine" := by simpa using h1
  have h2' : fn.body ≠ none := fun e => by rw [e] at h2; cases h2
  simp [hfn, h1', h2', e]

theorem op_call (M : Mem b X) {a : Act} {ev : Operand → D} (hev : ∀ x, RelD X (ev x) (a.eval x)) (hrd : ∀ id r, rd id = some r → hget X.H id = some r) {c : Call} {f : Operand} (ho : o.op = .call c) (hc : c.callee = .value f)
    (h : opEff P rd nid sp o ev = some E) (hob : ∀ p ∈ E.obl, p) (hf : Free X nid E.allocs.length) (hn : b.n ≤ nid) : StepW P b X nid o a E := by
  simp only [opEff, ho, hc] at h
  have hfv := hev f
  split at h
  · rename_i g caps he
    split at h
    · rename_i n _
      unfold callEff at h
      rw [he] at hfv
      simp only [RelD] at hfv
      obtain ⟨us, hfu, hcaps⟩ := hfv
      simp only at h
      split at h
      · rename_i hg
        simp only [Bool.and_eq_true, decide_eq_true_eq] at hg
        obtain ⟨⟨⟨⟨⟨⟨⟨hgf, hl⟩, hnd⟩, hclosed⟩, hcla⟩, hcl⟩, hfrz⟩, hflat⟩ := hg
        split at h
        · rename_i ps qs hfit hsh
          simp only [Option.some.injEq] at h
          subst h
          simp only [List.mem_cons, List.mem_append, forall_eq_or_imp] at hob
          obtain ⟨hcon, hob⟩ := hob
          have hps : ∀ p ∈ ps, p := fun p hp => hob p (.inl (.inl hp))
          have hqs : ∀ p ∈ qs, p := fun p hp => hob p (.inl (.inr hp))
          have hre := rowEq_all (fun p hp => hob p (.inr hp))
          have hrows : ∀ (k : Nat) (r : Row), n.pre[k]? = some r → hget X.H (n.cap.getD k 0) = some (renRow (ren n.cap nid) r) := by
            intro k r hk
            have h1 := hrd _ _ (hre k r hk)
            have hk' : k < n.cap.length := by
              rw [← hl]
              exact (List.getElem?_eq_some_iff.1 hk).1
            rwa [Nat.zero_add, ren_cap hk'] at h1
          obtain ⟨hpl, hshape⟩ := shapeEq_all hsh hqs
          have hnd' := nodupB_iff.1 hnd
          have hcl' : ∀ i ∈ n.cap, i ∉ n.lent := by
            intro i hi
            have := List.all_eq_true.1 hcl i hi
            simpa using this
          have hfrz' : ∀ i ∈ n.frz, hget X.H i ≠ none := by
            intro i hi
            have := List.all_eq_true.1 hfrz i hi
            obtain ⟨r, hr⟩ := Option.isSome_iff_exists.1 this
            rw [hrd _ _ hr]
            simp
          have hflat' : n.lent = [] ∨ (flatD n.val = true ∧ (∀ r ∈ n.allocs, flatRow r = true) ∧ ∀ r, some r ∈ n.post → flatRow r = true) := by
            simp only [Bool.or_eq_true, Bool.and_eq_true, List.isEmpty_iff] at hflat
            refine hflat.imp id fun h => ⟨h.1.1, fun r hr => List.all_eq_true.1 h.1.2 r hr, fun r hr => ?_⟩
            have := List.all_eq_true.1 h.2 _ hr
            simpa using this
          obtain ⟨⟨fn, hfn, hname, hbody⟩, hcon⟩ := hcon
          subst hgf
          intro K Q hK
          unfold Oper.wp
          rw [exec_call ho hc hfu hfn hname hbody, Oper.upon_enter]
          have hargs : RelDs X (c.args.toList.map ev ++ caps) (c.args.toList.map a.eval ++ us) := by
            rw [relDs_append]
            exact ⟨_, _, rfl, relDs_map _ fun x _ => hev x, hcaps⟩
          have hargs' := fits_rel (nid := nid) M hrd (n.lent ++ n.frz) hl hrows _ _ _ _ hfit hps hcla hargs
          have hM := mem_callee (nid := nid) (frz := n.frz) (lent := n.lent) M hl hnd' hcl' hclosed hrows
          have := hcon X.w (capρ X n.cap) (softS X (n.lent ++ n.frz)) _ (by rw [hl]; exact hM) hargs'
          refine Calls.mono this ?_
          rintro e w' ⟨v, ρ', S', he', hM1, hv⟩
          subst he'
          simp only
          have hf' : Free X nid n.allocs.length := by simpa using hf
          rw [hl] at hM1
          obtain ⟨M2, L2, hr2⟩ := mem_called (nid := nid) M hl (hpl.trans hl) hnd' hcl' hrows hfrz' hshape hf' hn hflat' hM1 hv
          exact hK _ v M2 rfl L2 hr2
        · cases h
      · cases h
    · cases h
  · cases h

theorem op_wp (M : Mem b X) {a : Act} {ev : Operand → D} (hev : ∀ x, RelD X (ev x) (a.eval x)) (hrd : ∀ id r, rd id = some r → hget X.H id = some r)
    (h : opEff P rd nid sp o ev = some E) (hob : ∀ p ∈ E.obl, p) (hf : Free X nid E.allocs.length) (hn : b.n ≤ nid) : StepW P b X nid o a E := by
  cases ho : o.op with
  | move x => exact (op_move M hev (.inl ho) h).wp
  | assign x => exact (op_move M hev (.inr ho) h).wp
  | pick c x y => exact (op_pick M hev ho h).wp
  | alloc t => exact (op_alloc M ho h hf hn).wp
  | box t x => exact (op_box M hev ho h hf hn).wp
  | build t ps => exact (op_build M hev ho h).wp
  | buildSlice t n ps => exact (op_buildSlice M hev hrd ho h hf hn).wp
  | load t x => exact (op_load M hev hrd ho h hob).wp
  | store t x y => exact (op_store M hev hrd ho h hob).wp
  | nilCheck x => exact (op_nilCheck M hev hrd ho h).wp
  | binOp op t x y t' => exact (op_bin M hev ho h hob).wp
  | unOp op t x => exact (op_un M hev ho h).wp
  | convert s t x => exact (op_convert M hev ho h hob).wp
  | makeFunc f first caps => cases f with
    | func f => exact (op_makeFunc M hev ho h).wp
    | _ => simp [opEff, ho] at h
  | makeSlice t l c => exact (op_makeSlice M hev hrd ho h hob hf hn).wp
  | slice t x lo hi mx => exact (op_slice M hev hrd ho h hob).wp
  | fieldAddr t x f => exact (op_field M hev hrd ho h).wp
  | indexAddr t x i => exact (op_indexAddr M hev hrd ho h hob).wp
  | index t x i => exact (op_index M hev ho h hob).wp
  | extract t i => exact (op_extract M hev ho h).wp
  | call c => cases hc : c.callee with
    | value f => exact op_call M hev hrd ho hc h hob hf hn
    | builtin B => exact (op_builtin M hev hrd ho hc h hob hf hn).wp
    | invoke _ _ => simp [opEff, ho, hc] at h
  | _ => simp [opEff, ho] at h

theorem evalD_rel (M : Mem b X) {tmps : List D} {a : Act} (hT : RelDs X tmps a.tmps.toList) (x : Operand) : RelD X (evalD tmps x) (a.eval x) := by
  cases x with
  | tmp t =>
    simp only [evalD, Act.eval]
    cases hg : tmps[t]? with
    | none =>
      rw [List.getD_eq_getElem?_getD, hg]
      simp only [Option.getD_none, RelD]
    | some d =>
      obtain ⟨u, hu, hr⟩ := relDs_get hT hg
      rw [List.getD_eq_getElem?_getD, hg, Array.getD_eq_getD_getElem?, ← Array.getElem?_toList, hu]
      exact hr
  | const v => simp only [evalD, Act.eval, RelD]
  | global g =>
    simp only [evalD, Act.eval]
    split
    · rename_i us hl
      have hm : (g, us) ∈ gTab := by
        generalize gTab = l at hl
        induction l with
        | nil => simp at hl
        | cons p l ih =>
          obtain ⟨g', us'⟩ := p
          rw [List.lookup_cons] at hl
          split at hl
          · rename_i hb
            simp only [Option.some.injEq] at hl
            rw [eq_of_beq hb, hl]
            exact List.mem_cons_self
          · exact List.mem_cons_of_mem _ (ih hl)
      obtain ⟨h1, h2⟩ := M.glob _ hm
      simp only [RelD]
      refine ⟨_, us, rfl, relDs_v us, fun j u hj => ⟨_, rfl, h1, ?_⟩⟩
      rw [add_plain, Nat.zero_add]
      exact h2 j u hj
    · simp only [RelD]
  | func f => simp only [evalD, Act.eval, RelD]; exact ⟨[], rfl, by simp only [RelDs]⟩

theorem relDs_set : ∀ {ds : List D} {us : List Value} {i : Nat} {d : D} {u : Value}, RelDs X ds us → RelD X d u → RelDs X (ds.set i d) (us.set i u)
  | [], us, i, d, u, h, _ => by simp only [RelDs] at h; subst h; simp [RelDs]
  | d0 :: ds, us, i, d, u, h, hd => by
    simp only [RelDs] at h
    obtain ⟨u0, us', rfl, h1, h2⟩ := h
    cases i with
    | zero => simp only [List.set_cons_zero, RelDs]; exact ⟨_, _, rfl, hd, h2⟩
    | succ i => simp only [List.set_cons_succ, RelDs]; exact ⟨_, _, rfl, h1, relDs_set h2 hd⟩

theorem putD_rel {tmps : List D} {a : Act} (hT : RelDs X tmps a.tmps.toList) (dst : Option Tmp) {d : D} {u : Value} (h : RelD X d u) : RelDs X (putD tmps dst d) (a.put dst u).tmps.toList := by
  cases dst with
  | none => exact hT
  | some t =>
    simp only [putD, Act.put, Array.toList_setIfInBounds]
    exact relDs_set hT h

theorem put_defers (a : Act) (dst : Option Tmp) (u : Value) : (a.put dst u).defers = a.defers := by cases dst <;> rfl

theorem wantedD_rel {ops : Array Oper} {tmps : List D} {a : Act} (hT : RelDs X tmps a.tmps.toList) {t : Bool} (h : wantedD ops tmps o = some t) : Region.wanted o (yielded ops a.tmps) = t := by
  unfold wantedD at h
  unfold Region.wanted
  cases hg : o.guard with
  | none => rw [hg] at h; simpa using h
  | some gw =>
    obtain ⟨j, want⟩ := gw
    rw [hg] at h
    simp only at h
    unfold yielded
    cases hd : (ops[j]?).bind (·.dst) with
    | none => rw [hd] at h; cases h
    | some t' =>
      rw [hd] at h
      try simp only at h
      try simp only [Option.bind_some]
      cases hx : tmps[t']? with
      | none => rw [hx] at h; cases h
      | some d =>
        rw [hx] at h
        obtain ⟨u, hu, hr⟩ := relDs_get hT hx
        rw [Array.getElem?_toList] at hu
        rw [hd]
        simp only [Option.bind_some, hu]
        split at h
        · rename_i c heq
          simp only [Option.some.injEq] at heq h
          subst heq
          subst h
          simp only [RelD] at hr
          subst hr
          simp
        · rename_i vs heq
          simp only [Option.some.injEq] at heq h
          subst heq
          subst h
          simp only [RelD] at hr
          subst hr
          simp
        · cases h

theorem freeB_free {H : Heap} (hH : X.H = H) {nid n : Nat} (h : freeB H nid n = true) : Free X nid n := by
  intro j hj
  unfold freeB at h
  have := List.all_eq_true.1 h j (List.mem_range.2 hj)
  simp only [Bool.and_eq_true, decide_eq_true_eq] at this
  rw [hH]
  refine ⟨?_, this.1⟩
  have h2 := this.2
  split at h2
  · assumption
  · cases h2

theorem effD_some {d : Dec} {ev : Operand → D} {rd : Nat → Option Row} {E : Eff} (h : effD P rd d ev = some E) (hps : ∀ p ∈ E.obl, p) :
    ∃ E0, opEff P rd d.nid d.sp d.o ev = some E0 ∧ (∀ p ∈ E0.obl, p) ∧ E.allocs = E0.allocs ∧ E.writes = E0.writes ∧ ∀ X' v, RelD X' E0.val v → RelD X' E.val v := by
  unfold effD at h
  split at h
  · rename_i E0 h0
    unfold fixE at h
    split at h
    · simp only [Option.some.injEq] at h
      subst h
      exact ⟨E0, h0, hps, rfl, rfl, fun _ _ h => h⟩
    · split at h
      · rename_i c _ _ b hv
        simp only [Option.some.injEq] at h
        subst h
        have hb : b = c := hps _ List.mem_cons_self
        refine ⟨E0, h0, fun p hp => hps p (List.mem_cons_of_mem _ hp), rfl, rfl, fun X' v hr => ?_⟩
        rw [hv, hb] at hr
        exact hr
      · cases h
  · cases h

theorem stepD_wp (M : Mem b X) {ops : Array Oper} {d : Dec} {s s' : St} {ps : List Prop} {a : Act} (hT : RelDs X s.tmps a.tmps.toList) (hH : X.H = s.heap) (hn : b.n ≤ d.nid) (h : stepD P ops d s = some (s', ps)) (hps : ∀ p ∈ ps, p)
    {i : Nat} (hi : ops[i]? = some d.o) {K : Act → World → Prop} {Q : Exit → Act → World → Prop}
    (hK : ∀ X' a', Mem b X' → RelDs X' s'.tmps a'.tmps.toList → X'.H = s'.heap → a'.defers = a.defers → Le X X' → K a' X'.w) : wpOp P ops Q i K a X.w := by
  unfold wpOp
  simp only [hi]
  unfold stepD at h
  split at h
  · rename_i hw
    rw [wantedD_rel hT hw]
    simp only [if_true]
    split at h
    · rename_i E hE
      split at h
      · rename_i hg
        simp only [Bool.and_eq_true, decide_eq_true_eq] at hg
        simp only [Option.some.injEq, Prod.mk.injEq] at h
        obtain ⟨rfl, rfl⟩ := h
        obtain ⟨E0, hE0, f1, f2, f3, f4⟩ := effD_some hE hps
        rw [f2, f3] at hK
        rw [f2] at hg
        refine .inl (op_wp M (evalD_rel M hT) (fun id r hr => by rw [hH]; exact rdOf_some hr) hE0 f1 (freeB_free hH hg.1.2) hn K Q ?_)
        intro X' v M' hX' L' hv
        exact hK X' _ M' (putD_rel (L'.ds hT) _ (f4 X' v hv)) (by rw [hX', hH]) (put_defers _ _ _) L'
      · cases h
    · cases h
  · rename_i hw
    rw [wantedD_rel hT hw]
    simp only [Option.some.injEq, Prod.mk.injEq] at h
    obtain ⟨rfl, rfl⟩ := h
    simp only [Bool.false_eq_true, if_false]
    exact hK X _ M (putD_rel hT _ (by simp only [RelD])) hH (put_defers _ _ _) (Le.refl X)
  · cases h

/-- Operations one after another. -/
theorem runD_wp {ops : Array Oper} {Q : Exit → Act → World → Prop} : ∀ (ds : List Dec) (is : List Nat) {X : Ctx} {s s' : St} {ps : List Prop} {a : Act}, Mem b X → RelDs X s.tmps a.tmps.toList → X.H = s.heap → (∀ d ∈ ds, b.n ≤ d.nid) →
    runD P ops ds s = some (s', ps) → (∀ p ∈ ps, p) → is.map (fun i => ops[i]?) = ds.map (fun d => some d.o) →
    (∀ X' a', Mem b X' → RelDs X' s'.tmps a'.tmps.toList → X'.H = s'.heap → a'.defers = a.defers → Le X X' → Q .normal a' X'.w) → wpOps P ops Q is a X.w
  | [], is, X, s, s', ps, a, M, hT, hH, _, h, _, hi, hQ => by
    simp only [List.map_nil, List.map_eq_nil_iff] at hi
    subst hi
    simp only [runD, Option.some.injEq, Prod.mk.injEq] at h
    obtain ⟨rfl, rfl⟩ := h
    exact hQ X a M hT hH rfl (Le.refl X)
  | d :: ds, is, X, s, s', ps, a, M, hT, hH, hn, h, hps, hi, hQ => by
    cases is with
    | nil => simp at hi
    | cons i is =>
    simp only [List.map_cons, List.cons.injEq] at hi
    simp only [runD] at h
    split at h
    · rename_i s1 p1 hs
      split at h
      · rename_i s2 p2 hr
        simp only [Option.some.injEq, Prod.mk.injEq] at h
        obtain ⟨rfl, rfl⟩ := h
        rw [wpOps_cons]
        refine stepD_wp M hT hH (hn d List.mem_cons_self) hs (fun p hp => hps p (List.mem_append_left _ hp)) hi.1 ?_
        intro X' a' M' hT' hH' hd' L'
        refine runD_wp ds is M' hT' hH' (fun d hd => hn d (List.mem_cons_of_mem _ hd)) hr (fun p hp => hps p (List.mem_append_right _ hp)) hi.2 ?_
        intro X'' a'' M'' hT'' hH'' hd'' L''
        exact hQ X'' a'' M'' hT'' hH'' (hd''.trans hd') (L'.trans L'')
      · cases h
    · cases h

end
end Go.Proofs.YtnakmganodkliaaDoorAm
