/- What single operations do: append, copy, clear on rows of the call's own. -/
import Derived.Test.YtnakmganodkliaaAmA
set_option linter.unusedVariables false
set_option linter.unusedSimpArgs false
namespace Go.Proofs.YtnakmganodkliaaAm
open Go

section
variable {P : Program} {b : Beg} {X : Ctx}

theorem at_none {S : Nat → Prop} {w : World} {A : Option Addr} {us : List Value} (h : At S w A us) (hA : A = none) : us = [] := by
  cases us with
  | nil => rfl
  | cons u us =>
    obtain ⟨a, e, _⟩ := h 0 u rfl
    rw [hA] at e
    cases e

theorem at_weaken {S : Nat → Prop} {w : World} {A : Option Addr} {us : List Value} (h : At S w A us) : At (fun _ => True) w A us := fun j u hj => by
  obtain ⟨a, e, _, hc⟩ := h j u hj
  exact ⟨a, e, trivial, hc⟩

/-- What is appended, or copied: its elements, and its cells. -/
theorem src_data (M : Mem b X) (rd : Nat → Option Row) (hrd : ∀ id r, rd id = some r → hget X.H id = some r) {ty : Ty} {d : D} {ys : List ty.El} {u : Value} (h : (Ty.sl ty).ofCells rd [d] = some ys) (hr : RelD X d u) :
    ∃ A c us, u = .slice A (List.length ys) c ∧ List.length ys ≤ c ∧ (A = none → us = []) ∧ Reps (RelE X.S X.w ty) ys us ∧ At (fun _ => True) X.w A us := by
  simp only [Ty.ofCells] at h
  unfold slC at h
  split at h
  · rename_i nn cl t' xs heq
    cases heq
    split at h
    · rename_i ht
      subst ht
      simp only [Option.some.injEq] at h
      subst h
      simp only [RelD] at hr
      obtain ⟨A, c, us', e1, h2, h3, _, _, h5, h6⟩ := hr
      exact ⟨A, c, us', e1, h2, fun e => at_none h6 e, h5, at_weaken h6⟩
    · cases h
  · rename_i heq
    cases heq
    simp only [Option.some.injEq] at h
    subst h
    simp only [RelD] at hr
    exact ⟨none, 0, [], hr, Nat.le_refl _, fun _ => rfl, rfl, fun j u hj => by simp at hj⟩
  · rename_i id off len cap heq
    cases heq
    obtain ⟨e, xs, hr1, hx⟩ := rowData_some h
    subst hx
    obtain ⟨A, c, us', e1, h2, h3, h4, h5, _⟩ := own_data (S' := fun _ => True) M (fun _ _ => trivial) (hrd _ _ hr1) (fun _ _ => trivial) hr
    exact ⟨A, c, us', e1, h2, fun e => at_none h5 e, h4, h5⟩
  · cases h

/-- The cells of an element, one by one, may each stand in a cell. -/
theorem relE_one {S : Nat → Prop} {w : World} : ∀ (t : Ty) (x : t.El) (us : List Value), RelE S w t x us → ∀ u, u ∈ us → u.oneCell' = true
  | .int _, _, us, h, u, hu => by rw [h] at hu; simp at hu; subst hu; rfl
  | .bool, _, us, h, u, hu => by rw [h] at hu; simp at hu; subst hu; rfl
  | .str, _, us, h, u, hu => by rw [h] at hu; simp at hu; subst hu; rfl
  | .sl t, xs, us, ⟨A, c, us', e, _⟩, u, hu => by rw [e] at hu; simp at hu; subst hu; rfl
  | .prod a b, x, us, ⟨u1, u2, e, h1, h2⟩, u, hu => by
    rw [e] at hu
    rcases List.mem_append.1 hu with h | h
    · exact relE_one a _ _ h1 u h
    · exact relE_one b _ _ h2 u h
  | .unit, _, us, h, u, hu => by rw [h] at hu; simp at hu

theorem reps_one {S : Nat → Prop} {w : World} {t : Ty} : ∀ {xs : List t.El} {us : List Value}, Reps (RelE S w t) xs us → ∀ u, u ∈ us → u.oneCell' = true
  | [], us, h, u, hu => by simp only [Reps] at h; subst h; simp at hu
  | x :: xs, us, ⟨u1, u2, e, h1, h2⟩, u, hu => by
    rw [e] at hu
    rcases List.mem_append.1 hu with h | h
    · exact relE_one t x u1 h1 u h
    · exact reps_one h2 u h

/-- 'append' where the result is a new row: the old one lies where it lay, or is not looked at any more. -/
theorem s_append_grow (M : Mem b X) {nid : Nat} (hf : slot X.H nid = .free) (hl : nid < X.H.length) (hn : b.n ≤ nid) {t t' e e' oty : TypeId} {i : TypeInfo} {z : Value} (ht : P.underlying t = some (.slice e)) (ht' : P.underlying t' = some (.slice e')) (hi : P.info? e = some i) (hz : i.zero = some z)
    {ty : Ty} (hsz : ty.size = i.size) (hzs : z.cells.size = i.size) (hzo : ∀ u, u ∈ z.cells.toList → u.oneCell' = true)
    {A A2 : Option Addr} {sLen sCap c2 : Nat} {xs ys : List ty.El} {us vs : List Value} (hx : Reps (RelE X.S X.w ty) xs us) (hy : Reps (RelE X.S X.w ty) ys vs) (hxl : xs.length = sLen)
    (hAt : At (fun _ => True) X.w A us) (hAt2 : At (fun _ => True) X.w A2 vs) (hA : A = none → us = []) (hA2 : A2 = none → vs = [])
    (hg : sCap < sLen + ys.length) (hroom : roomy P e (sLen + ys.length)) (h0 : ty.size ≠ 0) :
    ∃ v X', (Builtin.append_ #[t, t'] oty #[.slice A sLen sCap, .slice A2 ys.length c2]).run P X.w = .ok v X'.w ∧ Mem b X' ∧ X'.H = X.H.set nid (.live (.data e ty (xs ++ ys))) ∧ Le X X' ∧ RelD X' (.own nid 0 (sLen + ys.length) none) v := by
  have hul := reps_length hx
  have hvl := reps_length hy
  obtain ⟨hroom, hroom2⟩ := hroom
  have hby : P.bytesOf e = i.bytes := by simp [Program.bytesOf, hi]
  rw [hby] at hroom
  obtain ⟨M1, L1⟩ := mem_drew M (X.w.drawn + 1) rfl
  have h63 : ((sLen + ys.length : Nat) : Int) ≤ 9223372036854775807 := by omega
  have hfit := growslice_fits (old := sCap) (by omega : sCap < sLen + ys.length) hroom
  have hfo := run_firstCells_at (P := P) (c := sCap) (m := sLen) (size := i.size) (by rw [hul, hxl, hsz]) hA hAt X.w.drew rfl
  have hfn := run_firstCells_at (P := P) (c := c2) (m := ys.length) (size := i.size) (by rw [hvl, hsz]) hA2 hAt2 X.w.drew rfl
  have hr := run_append_more (ty := oty) ht ht' hi hz X.w A A2 sLen sCap ys.length c2 hfo hfn hg h63 hfit
  have hge := grownCap_ge X.w (sLen + ys.length) sCap e
  generalize grownCap X.w (sLen + ys.length) sCap e = nc at hr hge
  have hreps := hx.append hy
  have hreps' : Reps (RelE X.S X.w.drew ty) (xs ++ ys) (us ++ vs) := Reps_mono (fun x u h => RelE_mono (S := X.S) (w := X.w) (S' := X.S) (w' := X.w.drew) (fun k hk => ⟨hk, rfl⟩) ty x u h) _ _ hreps
  have hzl : (Builtin.zeroCells z.cells (nc - (sLen + ys.length))).toList.length = (nc - (sLen + ys.length)) * ty.size := by rw [Array.length_toList, size_zeroCells, hzs, hsz]
  have hsize : (us ++ vs ++ (Builtin.zeroCells z.cells (nc - (sLen + ys.length))).toList).toArray.size = nc * ty.size := by
    rw [List.size_toArray, List.length_append, List.length_append, hul, hvl, hzl, hxl, ← Nat.add_mul, ← Nat.add_mul]
    congr 1
    omega
  have hc : Content ⟨X.ρ, X.H, X.S, X.w.drew⟩ (.data e ty (xs ++ ys)) ⟨X.w.drew.heap.size, 0, (us ++ vs ++ (Builtin.zeroCells z.cells (nc - (sLen + ys.length))).toList).toArray.size⟩
      (us ++ vs ++ (Builtin.zeroCells z.cells (nc - (sLen + ys.length))).toList).toArray e := by
    refine ⟨rfl, rfl, us ++ vs, hreps', reps_one hreps, ?_, ?_⟩
    · simp
    · intro j u hj
      simp only [Nat.zero_add, List.getElem?_toArray]
      rw [List.getElem?_append_left]
      · exact hj
      · exact (List.getElem?_eq_some_iff.1 hj).1
  obtain ⟨M2, L2⟩ := mem_alloc M1 (id := nid) hf hl hn (.data e ty (xs ++ ys)) _ e hc
  refine ⟨_, _, hr, M2, rfl, L1.trans L2, ?_⟩
  exact relD_new (X := ⟨X.ρ, X.H, X.S, X.w.drew⟩) hl none (by simp; omega) hge (by simp) (fun _ => by simp; omega) _ (by rw [hsize]; exact Nat.le_refl _)

end
end Go.Proofs.YtnakmganodkliaaAm
