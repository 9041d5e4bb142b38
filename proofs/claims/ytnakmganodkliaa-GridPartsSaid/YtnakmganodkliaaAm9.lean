/- What single operations do: made slices, pieces of slices, addresses. -/
import Derived.Test.YtnakmganodkliaaAm8
set_option linter.unusedVariables false
set_option linter.unusedSimpArgs false
namespace Go.Proofs.YtnakmganodkliaaAm
open Go

theorem add_add' (a : Addr) (m j : Nat) : (a.add m).add j = a.add (m + j) := by
  unfold Addr.add
  by_cases h1 : m = 0 <;> by_cases h2 : j = 0 <;> simp [h1, h2, Nat.add_assoc]

section
variable {P : Program} {b : Beg} {X : Ctx}

theorem s_makeSlice (M : Mem b X) {nid : Nat} (hf : slot X.H nid = .free) (hl : nid < X.H.length) (hn : b.n ≤ nid) (rd : Nat → Option Row) (hrd : ∀ id r, rd id = some r → hget X.H id = some r)
    {t e : TypeId} (hu : P.underlying t = some (.slice e)) {ty : Ty} {z : List D} (hz : zeroD P e = some z) (hsz : ty.size = P.cellsOf e) (h0 : ty.size ≠ 0) {y : ty.El} (hy : ty.ofCells rd z = some y)
    (kl kc : IntKind) (l c : Int) (h1 : 0 ≤ l) (h2 : l ≤ c) (h3 : c ≤ 9223372036854775807) (h4 : c.toNat * P.bytesOf e ≤ 281474976710656) :
    ∃ v X', (Instr.makeSlice t (.int kl l) (.int kc c)).run P X.w = .ok v X'.w ∧ Mem b X' ∧ X'.H = X.H.set nid (.live (.data e ty (List.replicate c.toNat y))) ∧ Le X X' ∧ RelD X' (.own nid 0 l.toNat (some c.toNat)) v := by
  obtain ⟨i, zv, hi, hz', hs, ho, rfl⟩ := zeroD_some hz
  have hsz' : ty.size = i.size := by rw [hsz]; simp [Program.cellsOf, hi]
  have hzl : zv.cells.toList.length = ty.size := by rw [hsz']; simpa using hs
  have hE := (ofCells_rel M (fun _ h => h) rd hrd ty _ _ _ hy (relDs_v zv.cells.toList) (fun id hid => by
    rw [mem_killIds] at hid
    obtain ⟨_, _, _, hm⟩ := hid
    simp at hm)).1
  have hreps := Reps.replicate hE c.toNat
  have hb' : (i.bytes : Int) * c ≤ 281474976710656 := by
    have e1 : P.bytesOf e = i.bytes := by simp [Program.bytesOf, hi]
    rw [e1] at h4
    have e2 : ((c.toNat * i.bytes : Nat) : Int) = (i.bytes : Int) * c := by
      rw [Int.natCast_mul, Int.toNat_of_nonneg (by omega), Int.mul_comm]
    omega
  have hr := run_make (P := P) X.w t e i zv hu hi hz' kl kc l c h1 h2 hb' h3
  have hcells : madeCells zv.cells (c.toNat * i.size) = (List.replicate c.toNat zv.cells.toList).flatten.toArray := by
    have := range_mod zv.cells.toList ty.size hzl h0 c.toNat
    rw [← this, hsz', madeCells]
    apply Array.ext'
    simp
  rw [hcells] at hr
  have hul := reps_length hreps
  simp only [List.length_replicate] at hul
  have hc : Content X (.data e ty (List.replicate c.toNat y)) ⟨X.w.heap.size, 0, (List.replicate c.toNat zv.cells.toList).flatten.toArray.size⟩ (List.replicate c.toNat zv.cells.toList).flatten.toArray e := by
    refine ⟨rfl, rfl, _, hreps, ?_, by simp, by simp⟩
    intro u hu
    simp only [List.mem_flatten, List.mem_replicate] at hu
    obtain ⟨l, ⟨_, rfl⟩, hu⟩ := hu
    exact ho u hu
  obtain ⟨M', L'⟩ := mem_alloc M hf hl hn _ _ e hc
  refine ⟨_, _, hr, M', rfl, L', ?_⟩
  refine relD_new hl (some c.toNat) (by simp; omega) (by omega) (by simp) (by simp) _ ?_
  rw [List.size_toArray, hul]
  exact Nat.le_refl _

/-- The bounds of a piece of a slice, given or not. -/
theorem run_slice_gen {t e : TypeId} {i : TypeInfo} (hu : P.underlying t = some (.slice e)) (hi : P.info? e = some i) (w : World) (a : Option Addr) (len cap : Nat) (lo hi' mx : Option Value) (l h m : Int)
    (hlo : (lo = none ∧ l = 0) ∨ ∃ k, lo = some (.int k l)) (hhi : (hi' = none ∧ h = len) ∨ ∃ k, hi' = some (.int k h)) (hmx : (mx = none ∧ m = cap) ∨ (hi' ≠ none ∧ ∃ k, mx = some (.int k m)))
    (h0 : 0 ≤ l) (h1 : l ≤ h) (h2 : h ≤ m) (h3 : m ≤ cap) :
    (Instr.sliceAt t (.slice a len cap) lo hi' mx).run P w = .ok (.slice (if m.toNat = l.toNat then a else a.map (·.add (l.toNat * i.size))) (h.toNat - l.toNat) (m.toNat - l.toNat)) w := by
  have eh : (h.toNat : Int) = h := Int.toNat_of_nonneg (by omega)
  have em : (m.toNat : Int) = m := Int.toNat_of_nonneg (by omega)
  have hh0 : 0 ≤ h := by omega
  have hm0 : 0 ≤ m := by omega
  have hc : h ≤ (cap : Int) := by omega
  rcases hlo with ⟨rfl, rfl⟩ | ⟨kl, rfl⟩ <;> rcases hhi with ⟨rfl, rfl⟩ | ⟨kh, rfl⟩ <;> rcases hmx with ⟨rfl, rfl⟩ | ⟨hne, km, rfl⟩ <;>
    first
      | exact absurd rfl hne
      | (simp [Instr.sliceAt, Instr.slice, run_underlying hu, run_sizeOf' hi, Instr.sliceBounds, run_sliceBound, eh, em, h0, h1, h2, h3, hh0, hm0, hc]; done)

theorem optInt_some {ev : Operand → D} {va : Operand → Value} (hev : ∀ x, RelD X (ev x) (va x)) {o : Option Operand} {r : Option Int} (h : optInt (o.map ev) = some r) (d : Int) :
    (o.map va = none ∧ r.getD d = d ∧ r = none) ∨ ∃ k n, o.map va = some (.int k n) ∧ r = some n := by
  cases o with
  | none => simp [optInt] at h; subst h; exact .inl ⟨rfl, rfl, rfl⟩
  | some x =>
    simp only [Option.map_some, optInt] at h
    unfold numD at h
    split at h
    · rename_i k n heq
      simp only [Option.map_some, Option.some.injEq] at h
      subst h
      have := hev x
      rw [heq] at this
      simp only [RelD] at this
      exact .inr ⟨k, n, by rw [Option.map_some, this], rfl⟩
    · simp at h

/-- A piece of a slice of the call's own. m: the room that is left to it. -/
theorem relD_piece {id off len : Nat} {cap cap' : Option Nat} {A : Option Addr} {c : Nat} {e : TypeId} {ty : Ty} {xs : List ty.El} (h : RelD X (.own id off len cap) (.slice A len c)) (hr : hget X.H id = some (.data e ty xs))
    (l hh m : Nat) (h1 : l ≤ hh) (h2 : hh ≤ m) (h3 : m ≤ c) (h4 : off + hh ≤ xs.length) (hcap : ∀ k, cap' = some k → m - l = k) (hcap2 : cap' = none → xs.length ≤ off + m) :
    RelD X (.own id (off + l) (hh - l) cap') (.slice (if m = l then A else A.map (·.add (l * ty.size))) (hh - l) (m - l)) := by
  simp only [RelD] at h ⊢
  rw [hget_live.1 hr] at h ⊢
  obtain ⟨hlen, A', c', e1, hc, hA, hk, hk2, hplace⟩ := h
  simp only [Value.slice.injEq, true_and] at e1
  obtain ⟨rfl, rfl⟩ := e1
  refine ⟨by omega, _, _, rfl, by omega, ?_, hcap, fun h => by have := hcap2 h; omega, ?_⟩
  · intro hn
    split at hn
    · have := hA hn; omega
    · simp at hn
      have := hA hn; omega
  · by_cases hm : m = l
    · left; omega
    · right
      rcases hplace with h0 | ⟨lc, hl1, hl2, hl3⟩
      · omega
      · refine ⟨lc, hl1, ?_, ?_⟩
        · rw [if_neg hm, hl2, Option.map_some, add_plain, Nat.add_assoc, ← Nat.add_mul]
        · refine Nat.le_trans (Nat.add_le_add_left (Nat.mul_le_mul_right _ ?_) _) hl3
          omega

theorem s_slice_own {t e : TypeId} {i : TypeInfo} (hu : P.underlying t = some (.slice e)) (hi : P.info? e = some i) {id off len : Nat} {cap cap' : Option Nat} {u : Value} (h : RelD X (.own id off len cap) u) {et : TypeId} {ty : Ty} {xs : List ty.El}
    (hr : hget X.H id = some (.data et ty xs)) (hsz : ty.size = i.size) (lo hi' mx : Option Value) (l h' m : Int)
    (hlo : (lo = none ∧ l = 0) ∨ ∃ k, lo = some (.int k l)) (hhi : (hi' = none ∧ h' = len) ∨ ∃ k, hi' = some (.int k h')) (hmx : mx = none ∨ (hi' ≠ none ∧ ∃ k, mx = some (.int k m)))
    (h0 : 0 ≤ l) (h1 : l ≤ h')
    (hcase : (mx = none ∧ cap = none ∧ cap' = none ∧ h' ≤ ((xs.length - off : Nat) : Int)) ∨ (mx = none ∧ ∃ c, cap = some c ∧ cap' = some (c - l.toNat) ∧ h' ≤ (c : Int) ∧ off + c ≤ xs.length) ∨
      (mx ≠ none ∧ cap = none ∧ cap' = some (m.toNat - l.toNat) ∧ h' ≤ m ∧ m ≤ ((xs.length - off : Nat) : Int)) ∨ (mx ≠ none ∧ ∃ c, cap = some c ∧ cap' = some (m.toNat - l.toNat) ∧ h' ≤ m ∧ m ≤ (c : Int) ∧ off + c ≤ xs.length)) :
    ∃ v, (Instr.sliceAt t u lo hi' mx).run P X.w = .ok v X.w ∧ RelD X (.own id (off + l.toNat) (h'.toNat - l.toNat) cap') v := by
  have h9 := h
  simp only [RelD] at h9
  rw [hget_live.1 hr] at h9
  obtain ⟨hlen, A, c, e1, hc, hA, hk, hk2, _⟩ := h9
  subst e1
  rcases hcase with ⟨rfl, rfl, rfl, hh⟩ | ⟨rfl, c', rfl, rfl, hh, ho⟩ | ⟨hne, rfl, rfl, hh, hm⟩ | ⟨hne, c', rfl, rfl, hh, hm, ho⟩
  · have := hk2 rfl
    refine ⟨_, run_slice_gen hu hi X.w A len c lo hi' none l h' c hlo hhi (.inl ⟨rfl, rfl⟩) h0 h1 (by omega) (Int.le_refl _), ?_⟩
    rw [← hsz]
    exact relD_piece h hr l.toNat h'.toNat _ (by omega) (by omega) (by simp) (by omega) (by simp) (fun _ => by simp; omega)
  · have := hk c' rfl
    subst this
    refine ⟨_, run_slice_gen hu hi X.w A len c lo hi' none l h' c hlo hhi (.inl ⟨rfl, rfl⟩) h0 h1 (by omega) (Int.le_refl _), ?_⟩
    rw [← hsz]
    exact relD_piece h hr l.toNat h'.toNat _ (by omega) (by omega) (by simp) (by omega) (by simp) (by simp)
  · have := hk2 rfl
    have hmx' := hmx.resolve_left hne
    refine ⟨_, run_slice_gen hu hi X.w A len c lo hi' mx l h' m hlo hhi (.inr hmx') h0 h1 hh (by omega), ?_⟩
    rw [← hsz]
    exact relD_piece h hr l.toNat h'.toNat _ (by omega) (by omega) (by omega) (by omega) (by simp) (by simp)
  · have := hk c' rfl
    subst this
    have hmx' := hmx.resolve_left hne
    refine ⟨_, run_slice_gen hu hi X.w A len c lo hi' mx l h' m hlo hhi (.inr hmx') h0 h1 hh (by omega), ?_⟩
    rw [← hsz]
    exact relD_piece h hr l.toNat h'.toNat _ (by omega) (by omega) (by omega) (by omega) (by simp) (by simp)

theorem s_slice_ro {t e : TypeId} {i : TypeInfo} (hu : P.underlying t = some (.slice e)) (hi : P.info? e = some i) {nn cl : Bool} {ty : Ty} {xs : List ty.El} {u : Value} (h : RelD X (.sl nn cl ty xs) u)
    (hsz : ty.size = i.size) (lo hi' mx : Option Value) (l h' m : Int)
    (hlo : (lo = none ∧ l = 0) ∨ ∃ k, lo = some (.int k l)) (hhi : (hi' = none ∧ h' = xs.length) ∨ ∃ k, hi' = some (.int k h')) (hmx : mx = none ∨ (hi' ≠ none ∧ ∃ k, mx = some (.int k m)))
    (h0 : 0 ≤ l) (h1 : l ≤ h') (hb : h' ≤ (xs.length : Int)) (cl' : Bool) (hcase : (mx = none ∧ cl' = false) ∨ (mx ≠ none ∧ h' = m)) :
    ∃ v, (Instr.sliceAt t u lo hi' mx).run P X.w = .ok v X.w ∧ RelD X (.sl nn cl' ty ((xs.drop l.toNat).take (h'.toNat - l.toNat))) v := by
  simp only [RelD] at h
  obtain ⟨A, c, us, e1, h2, h3, h4, h5, h6, h7⟩ := h
  subst e1
  have hlen : ((xs.drop l.toNat).take (h'.toNat - l.toNat)).length = h'.toNat - l.toNat := by simp; omega
  have key : ∀ m' : Nat, h'.toNat ≤ m' → m' ≤ c → (cl' = true → m' = h'.toNat) →
      RelD X (.sl nn cl' ty ((xs.drop l.toNat).take (h'.toNat - l.toNat))) (.slice (if m' = l.toNat then A else A.map (·.add (l.toNat * i.size))) (h'.toNat - l.toNat) (m' - l.toNat)) := by
    intro m' hm1 hm2 hm3
    simp only [RelD]
    refine ⟨_, _, (us.drop (l.toNat * ty.size)).take ((h'.toNat - l.toNat) * ty.size), by rw [hlen], by omega, ?_, ?_, ?_, (h6.drop (RelE_length ty) _).take (RelE_length ty) _, ?_⟩
    · intro hn
      split at hn
      · have := h3 hn; omega
      · simp at hn
        have := h3 hn; omega
    · intro hn hA
      split at hA
      · exact h4 hn hA
      · simp at hA; exact h4 hn hA
    · intro hc
      rw [hm3 hc, hlen]
    · intro j u hj
      have hj2 : j < (h'.toNat - l.toNat) * ty.size := by
        rw [List.getElem?_take] at hj
        split at hj
        · assumption
        · cases hj
      have hj' : us[l.toNat * ty.size + j]? = some u := by
        rw [List.getElem?_take, if_pos hj2, List.getElem?_drop] at hj
        exact hj
      obtain ⟨a, ea, hS, hcell⟩ := h7 _ _ hj'
      have hne : m' ≠ l.toNat := by
        intro e
        have : h'.toNat - l.toNat = 0 := by omega
        rw [this] at hj2
        omega
      refine ⟨a.add (l.toNat * i.size), by rw [if_neg hne, ea]; rfl, by rw [add_block]; exact hS, ?_⟩
      rw [← hsz, add_add']
      exact hcell
  rcases hcase with ⟨rfl, rfl⟩ | ⟨hne, rfl⟩
  · refine ⟨_, run_slice_gen hu hi X.w A _ c lo hi' none l h' c hlo hhi (.inl ⟨rfl, rfl⟩) h0 h1 (by omega) (Int.le_refl _), ?_⟩
    have := key c (by omega) (Nat.le_refl _) (by simp)
    simpa using this
  · refine ⟨_, run_slice_gen hu hi X.w A _ c lo hi' mx l h' h' hlo hhi (.inr (hmx.resolve_left hne)) h0 h1 (Int.le_refl _) (by omega), ?_⟩
    exact key h'.toNat (Nat.le_refl _) (by omega) (fun _ => rfl)

end
end Go.Proofs.YtnakmganodkliaaAm
