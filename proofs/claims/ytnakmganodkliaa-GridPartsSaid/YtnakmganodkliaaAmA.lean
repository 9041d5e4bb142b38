/- What single operations do: addresses, parts of values, append, copy, clear. -/
import Derived.Test.YtnakmganodkliaaAm9
set_option linter.unusedVariables false
set_option linter.unusedSimpArgs false
namespace Go.Proofs.YtnakmganodkliaaAm
open Go

section
variable {P : Program} {b : Beg} {X : Ctx}

theorem cellsOf_info {t : TypeId} (h : P.cellsOf t ≠ 0) : ∃ i, P.info? t = some i ∧ P.cellsOf t = i.size := by
  unfold Program.cellsOf at h
  cases hi : P.info? t with
  | none => rw [hi] at h; simp at h
  | some i => exact ⟨i, rfl, by simp [Program.cellsOf, hi]⟩

theorem run_fieldPlace {a : Addr} {f : Field} (h : P.cellsOf f.type ≠ 0) (w : World) : (fieldPlace a f).run P w = .ok (a.add f.offset) w := by
  obtain ⟨i, hi, hs⟩ := cellsOf_info h
  rw [hs] at h
  simp [fieldPlace, run_sizeOf' hi, h]

theorem s_field_ptr (M : Mem b X) {t : TypeId} {fs : Array Field} (hu : P.underlying t = some (.struct fs)) {f : Nat} {fd : Field} (hf : fs[f]? = some fd) (h0 : P.cellsOf fd.type ≠ 0) {id i off : Nat} {u : Value} (h : RelD X (.ptr id i off) u) {r : Row} (hr : hget X.H id = some r) :
    ∃ v, (Instr.fieldAt t u f).run P X.w = .ok v X.w ∧ RelD X (.ptr id i (off + fd.offset)) v := by
  simp only [RelD] at h ⊢
  rw [hget_live.1 hr] at h ⊢
  obtain ⟨l, hl, e⟩ := h
  subst e
  cases r with
  | box _ _ =>
    refine ⟨.pointer (some ⟨l.b, l.o + off + fd.offset, none⟩), ?_, l, hl, ?_⟩
    · simp [Instr.fieldAt, run_underlying hu, hf, Instr.sureAddr, run_fieldPlace h0, add_plain]
    · simp [Nat.add_assoc]
  | data _ t' _ =>
    refine ⟨.pointer (some ⟨l.b, l.o + (i * t'.size + off) + fd.offset, none⟩), ?_, l, hl, ?_⟩
    · simp [Instr.fieldAt, run_underlying hu, hf, Instr.sureAddr, run_fieldPlace h0, add_plain]
    · simp [Nat.add_assoc]

theorem rptr_drop {ds : List D} {a : Addr} {us : List Value} (n : Nat) (h1 : RelDs X ds us) (h2 : At X.S X.w (some a) us) : RelD X (.rptr (ds.drop n)) (.pointer (some (a.add n))) := by
  simp only [RelD]
  refine ⟨_, us.drop n, rfl, relDs_drop n h1, fun j u hj => ?_⟩
  rw [List.getElem?_drop] at hj
  obtain ⟨a', e, hS, hc⟩ := h2 _ _ hj
  cases e
  exact ⟨_, rfl, by rw [add_block]; exact hS, by rw [add_add']; exact hc⟩

theorem s_field_ro {t : TypeId} {fs : Array Field} (hu : P.underlying t = some (.struct fs)) {f : Nat} {fd : Field} (hf : fs[f]? = some fd) (h0 : P.cellsOf fd.type ≠ 0) {ds : List D} {u : Value} (h : RelD X (.rptr ds) u) :
    ∃ v, (Instr.fieldAt t u f).run P X.w = .ok v X.w ∧ RelD X (.rptr (ds.drop fd.offset)) v := by
  simp only [RelD] at h
  obtain ⟨a, us, e, h1, h2⟩ := h
  subst e
  exact ⟨_, by simp [Instr.fieldAt, run_underlying hu, hf, Instr.sureAddr, run_fieldPlace h0], rptr_drop fd.offset h1 h2⟩

theorem run_indexAt_sl {t e : TypeId} {i : TypeInfo} (hu : P.underlying t = some (.slice e)) (hi : P.info? e = some i) (a : Addr) (len c : Nat) (k : IntKind) (n : Int) (h0 : 0 ≤ n) (h1 : n < len) (w : World) :
    (Instr.indexAt t (.slice (some a) len c) (.int k n)).run P w = .ok (.pointer (some (a.add (n.toNat * i.size)))) w := by
  simp [Instr.indexAt, run_underlying hu, asIntOf, h0, h1, run_sizeOf' hi]

theorem run_indexAt_arr {t e : TypeId} {len : Nat} {i : TypeInfo} (hu : P.underlying t = some (.array len e)) (hi : P.info? e = some i) (a : Addr) (k : IntKind) (n : Int) (h0 : 0 ≤ n) (h1 : n < len) (w : World) :
    (Instr.indexAt t (.pointer (some a)) (.int k n)).run P w = .ok (.pointer (some (a.add (n.toNat * i.size)))) w := by
  simp [Instr.indexAt, run_underlying hu, asIntOf, h0, h1, run_sizeOf' hi, Instr.sureAddr]

theorem s_index_own {t e : TypeId} {i : TypeInfo} (hu : P.underlying t = some (.slice e)) (hi : P.info? e = some i) {id off len : Nat} {cap : Option Nat} {u : Value} (h : RelD X (.own id off len cap) u) {et : TypeId} {ty : Ty} {xs : List ty.El}
    (hr : hget X.H id = some (.data et ty xs)) (hsz : ty.size = i.size) (k : IntKind) (n : Int) (h0 : 0 ≤ n) (h1 : n < (len : Int)) :
    ∃ v, (Instr.indexAt t u (.int k n)).run P X.w = .ok v X.w ∧ RelD X (.ptr id (off + n.toNat) 0) v := by
  simp only [RelD] at h ⊢
  rw [hget_live.1 hr] at h ⊢
  obtain ⟨hlen, A, c, e1, hc, _, _, _, hplace⟩ := h
  subst e1
  obtain ⟨l, hl, hA, _⟩ := hplace.resolve_left (by omega)
  subst hA
  refine ⟨_, run_indexAt_sl hu hi _ len c k n h0 h1 X.w, l, hl, ?_⟩
  rw [add_plain]
  simp [Nat.add_mul, Nat.add_assoc, hsz]

theorem s_index_ro {t e : TypeId} {i : TypeInfo} (hu : P.underlying t = some (.slice e)) (hi : P.info? e = some i) {nn cl : Bool} {ty : Ty} {xs : List ty.El} {u : Value} (h : RelD X (.sl nn cl ty xs) u) (hsz : ty.size = i.size)
    (k : IntKind) (n : Int) (h0 : 0 ≤ n) (h1 : n < (xs.length : Int)) :
    ∃ v, (Instr.indexAt t u (.int k n)).run P X.w = .ok v X.w ∧ RelD X (.rptr (ty.cells (xs.getD n.toNat ty.dflt))) v := by
  simp only [RelD] at h ⊢
  obtain ⟨A, c, us, e1, h2, h3, _, _, h6, h7⟩ := h
  subst e1
  cases A with
  | none => have := h3 rfl; omega
  | some a =>
    refine ⟨_, run_indexAt_sl hu hi a _ c k n h0 h1 X.w, _, (us.drop (n.toNat * ty.size)).take ty.size, rfl, ?_, ?_⟩
    · have hx : xs[n.toNat]? = some (xs.getD n.toNat ty.dflt) := by
        have : n.toNat < xs.length := by omega
        simp [List.getD_eq_getElem?_getD, this]
      exact relE_cells X ty _ _ (h6.get (RelE_length ty) hx)
    · intro j u hj
      rw [List.getElem?_take] at hj
      split at hj
      · rw [List.getElem?_drop] at hj
        obtain ⟨a', ea, hS, hc⟩ := h7 _ _ hj
        cases ea
        refine ⟨_, rfl, by rw [add_block]; exact hS, ?_⟩
        rw [add_add', ← hsz]
        exact hc
      · cases hj

theorem s_index_box {t e : TypeId} {len : Nat} {i : TypeInfo} (hu : P.underlying t = some (.array len e)) (hi : P.info? e = some i) {id j off : Nat} {u : Value} (h : RelD X (.ptr id j off) u) {bt : TypeId} {ds : List D} (hr : hget X.H id = some (.box bt ds))
    (k : IntKind) (n : Int) (h0 : 0 ≤ n) (h1 : n < (len : Int)) :
    ∃ v, (Instr.indexAt t u (.int k n)).run P X.w = .ok v X.w ∧ RelD X (.ptr id j (off + n.toNat * i.size)) v := by
  simp only [RelD] at h ⊢
  rw [hget_live.1 hr] at h ⊢
  obtain ⟨l, hl, e1⟩ := h
  subst e1
  refine ⟨_, run_indexAt_arr hu hi _ k n h0 h1 X.w, l, hl, ?_⟩
  rw [add_plain]
  simp [Nat.add_assoc]

theorem s_index_bsl {t e : TypeId} {i : TypeInfo} (hu : P.underlying t = some (.slice e)) (hi : P.info? e = some i) {id len : Nat} {u : Value} (h : RelD X (.bsl id len i.size) u) {bt : TypeId} {ds : List D} (hr : hget X.H id = some (.box bt ds))
    (k : IntKind) (n : Int) (h0 : 0 ≤ n) (h1 : n < (len : Int)) :
    ∃ v, (Instr.indexAt t u (.int k n)).run P X.w = .ok v X.w ∧ RelD X (.ptr id 0 (n.toNat * i.size)) v := by
  simp only [RelD] at h ⊢
  rw [hget_live.1 hr] at h ⊢
  obtain ⟨l, hl, e1⟩ := h
  subst e1
  exact ⟨_, run_indexAt_sl hu hi _ len len k n h0 h1 X.w, l, hl, by rw [add_plain]⟩

theorem s_index_arro {t e : TypeId} {len : Nat} {i : TypeInfo} (hu : P.underlying t = some (.array len e)) (hi : P.info? e = some i) {ds : List D} {u : Value} (h : RelD X (.rptr ds) u) (k : IntKind) (n : Int) (h0 : 0 ≤ n) (h1 : n < (len : Int)) :
    ∃ v, (Instr.indexAt t u (.int k n)).run P X.w = .ok v X.w ∧ RelD X (.rptr (ds.drop (n.toNat * i.size))) v := by
  simp only [RelD] at h
  obtain ⟨a, us, e1, h2, h3⟩ := h
  subst e1
  exact ⟨_, run_indexAt_arr hu hi _ k n h0 h1 X.w, rptr_drop _ h2 h3⟩

theorem s_index_agg {t e : TypeId} {len : Nat} {i : TypeInfo} (hu : P.underlying t = some (.array len e)) (hi : P.info? e = some i) (he : (P.underlying e).isSome = true) {ds : List D} {u : Value} (h : RelD X (.agg ds) u) (k : IntKind) (n : Int) (h0 : 0 ≤ n) (h1 : n < (len : Int))
    (hfit : n.toNat * i.size + i.size ≤ ds.length) {d : D} (hv : valD P e ((ds.drop (n.toNat * i.size)).take i.size) = some d) :
    ∃ v, (Instr.index t u (.int k n)).run P X.w = .ok v X.w ∧ RelD X d v := by
  simp only [RelD] at h
  obtain ⟨us, e1, h2⟩ := h
  subst e1
  have hl := relDs_length h2
  have h3 := relDs_take i.size (relDs_drop (n.toNat * i.size) h2)
  unfold valD at hv
  split at hv
  · rename_i ha
    simp only [Option.some.injEq] at hv
    subst hv
    refine ⟨.agg ((us.drop (n.toNat * i.size)).take i.size).toArray, ?_, by simp only [RelD]; exact ⟨_, rfl, h3⟩⟩
    have hex : us.toArray.extract (n.toNat * i.size) (n.toNat * i.size + i.size) = ((us.drop (n.toNat * i.size)).take i.size).toArray := by
      simp [List.extract_eq_take_drop]
    simp [Instr.index, run_underlying hu, asIntOf, h0, h1, run_sizeOf' hi, part, run_isAgg he, ha, hex]
  · rename_i ha
    split at hv
    · rename_i d' heq
      simp only [Option.some.injEq] at hv
      subst hv
      rw [heq] at h3
      obtain ⟨u, e2, h4⟩ := relDs_one.1 h3
      refine ⟨u, ?_, h4⟩
      have hu0 : us[n.toNat * i.size]? = some u := by
        have : ((us.drop (n.toNat * i.size)).take i.size)[0]? = some u := by rw [e2]; rfl
        rw [List.getElem?_take] at this
        split at this
        · rwa [List.getElem?_drop, Nat.add_zero] at this
        · cases this
      have ha' : aggB P e = false := by simpa using ha
      simp [Instr.index, run_underlying hu, asIntOf, h0, h1, run_sizeOf' hi, part, run_isAgg he, ha', hu0]
    · cases hv

theorem run_firstCells_at {S : Nat → Prop} {w : World} {A : Option Addr} {m c size : Nat} {us : List Value} (hl : us.length = m * size) (hA : A = none → us = []) (h : At S w A us) (w' : World) (hw : w'.heap = w.heap) :
    (Builtin.firstCells size m (.slice A m c)).run P w' = .ok us.toArray w' := by
  cases A with
  | none => rw [hA rfl]; simp [Builtin.firstCells]
  | some a =>
    exact run_firstCells_some w' size m a m c us hl (fun j v hj => by
      obtain ⟨a', e, _, hc⟩ := h j v hj
      cases e
      rw [← hc]
      exact cell_same (by rw [hw]))

theorem run_append_fit {t t' e e' ty : TypeId} {i : TypeInfo} (ht : P.underlying t = some (.slice e)) (ht' : P.underlying t' = some (.slice e')) (hi : P.info? e = some i) (w : World) (g o sLen sCap : Nat) (A2 : Option Addr) (m c2 : Nat) (cur : Array Value) (bt : TypeId)
    (hb : w.heap[g]? = some (.cells cur bt (0, 0))) {news : List Value} (hl : news.length = m * i.size) (hf : (Builtin.firstCells i.size m (.slice A2 m c2)).run P w = .ok news.toArray w) (h1 : ∀ u ∈ news, u.oneCell' = true) (hroom : sLen + m ≤ sCap) (hfit : o + sLen * i.size + news.length ≤ cur.size) :
    (Builtin.append_ #[t, t'] ty #[.slice (some ⟨g, o, none⟩) sLen sCap, .slice A2 m c2]).run P w =
      .ok (.slice (some ⟨g, o, none⟩) (sLen + m) sCap) (w.setRow g (cur.toList.take (o + sLen * i.size) ++ news ++ cur.toList.drop (o + sLen * i.size + news.length)).toArray) := by
  have hst := run_storeCells_at P g (o + sLen * i.size) bt news 0 cur w hb (by simpa using hfit) h1
  simp only [Nat.add_zero] at hst
  simp [Builtin.append_, run_underlying ht, run_underlying ht', sizeOf, typeInfo, hi, Builtin.lenOf, hroom, hf, add_plain, hst]

theorem run_append_none {t t' e e' ty : TypeId} {i : TypeInfo} (ht : P.underlying t = some (.slice e)) (ht' : P.underlying t' = some (.slice e')) (hi : P.info? e = some i) (w : World) (A A2 : Option Addr) (sLen sCap c2 : Nat) (hroom : sLen ≤ sCap)
    (hf : (Builtin.firstCells i.size 0 (.slice A2 0 c2)).run P w = .ok #[] w) :
    (Builtin.append_ #[t, t'] ty #[.slice A sLen sCap, .slice A2 0 c2]).run P w = .ok (.slice A sLen sCap) w := by
  cases A <;> simp [Builtin.append_, run_underlying ht, run_underlying ht', sizeOf, typeInfo, hi, Builtin.lenOf, hroom, hf, storeCells]

theorem run_append_more {t t' e e' ty : TypeId} {i : TypeInfo} {z : Value} (ht : P.underlying t = some (.slice e)) (ht' : P.underlying t' = some (.slice e')) (hi : P.info? e = some i) (hz : i.zero = some z) (w : World) (A A2 : Option Addr) (sLen sCap m c2 : Nat) {olds news : List Value}
    (hfo : (Builtin.firstCells i.size sLen (.slice A sLen sCap)).run P w.drew = .ok olds.toArray w.drew) (hf : (Builtin.firstCells i.size m (.slice A2 m c2)).run P w.drew = .ok news.toArray w.drew)
    (hg : sCap < sLen + m) (h63 : ((sLen + m : Nat) : Int) ≤ 9223372036854775807) (hfit : Builtin.nextslicecap (sLen + m) sCap * i.bytes ≤ 281474976710656) :
    (Builtin.append_ #[t, t'] ty #[.slice A sLen sCap, .slice A2 m c2]).run P w =
      .ok (.slice (some ⟨w.heap.size, 0, none⟩) (sLen + m) (grownCap w (sLen + m) sCap e))
        (w.drew.alloc (.cells (olds ++ news ++ (Builtin.zeroCells z.cells (grownCap w (sLen + m) sCap e - (sLen + m))).toList).toArray e)) := by
  have hn : ¬ (sLen + m ≤ sCap) := by omega
  have h63' : ¬ (9223372036854775807 < ((sLen : Int) + (m : Int))) := by omega
  have h48' : ¬ (281474976710656 < Builtin.nextslicecap (sLen + m) sCap * i.bytes) := by omega
  simp [Builtin.append_, run_underlying ht, run_underlying ht', sizeOf, typeInfo, zeroValue, hi, hz, Builtin.lenOf, hn, h63', h48', Question.forced, hf, hfo, newRow, grownCap]
  congr 2
  apply Array.ext'
  simp [List.append_assoc]

end
end Go.Proofs.YtnakmganodkliaaAm
