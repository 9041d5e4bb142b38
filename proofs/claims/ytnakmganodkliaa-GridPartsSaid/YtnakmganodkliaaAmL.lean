/- A region's operations in any order that it may take; regions. -/
import Derived.Test.YtnakmganodkliaaAmK
set_option linter.unusedVariables false
set_option linter.unusedSimpArgs false
namespace Go.Proofs.YtnakmganodkliaaAm
open Go

theorem runD_front {P : Program} {ops : Array Oper} {d : Dec} {L2 : List Dec} {s' : St} : ∀ (L1 : List Dec) {s : St} {ps : List Prop}, (∀ x ∈ L1, Indep ops x d) → runD P ops (L1 ++ d :: L2) s = some (s', ps) →
    ∃ ps', runD P ops (d :: (L1 ++ L2)) s = some (s', ps') ∧ ∀ p ∈ ps', p ∈ ps
  | [], s, ps, _, h => ⟨ps, h, fun _ hp => hp⟩
  | x :: L1, s, ps, hI, h => by
    simp only [List.cons_append, runD] at h
    split at h
    · rename_i s1 p1 hs
      split at h
      · rename_i s2 p2 hr
        simp only [Option.some.injEq, Prod.mk.injEq] at h
        obtain ⟨rfl, rfl⟩ := h
        obtain ⟨ps', h', hsub⟩ := runD_front L1 (fun y hy => hI y (List.mem_cons_of_mem _ hy)) hr
        simp only [runD] at h'
        split at h'
        · rename_i s3 q hd
          split at h'
          · rename_i s4 q2 hr2
            simp only [Option.some.injEq, Prod.mk.injEq] at h'
            obtain ⟨rfl, rfl⟩ := h'
            obtain ⟨s5, g1, g2⟩ := stepD_comm (hI x List.mem_cons_self) hs hd
            refine ⟨q ++ (p1 ++ q2), ?_, ?_⟩
            · simp only [List.cons_append, runD, g1, g2, hr2]
            · intro p hp
              rcases List.mem_append.1 hp with h | h
              · exact List.mem_append_right _ (hsub p (List.mem_append_left _ h))
              · rcases List.mem_append.1 h with h | h
                · exact List.mem_append_left _ h
                · exact List.mem_append_right _ (hsub p (List.mem_append_right _ h))
          · cases h'
        · cases h'
      · cases h
    · cases h

structure OrderOk (ops : Array Oper) (B : Array Nat) : Prop where
  back : ∀ k o e, ops[k]? = some o → e ∈ o.after → Region.binds .any e = true → e.on < k
  bits : ∀ k o j, ops[k]? = some o → (B.getD k 0).testBit j = true → ∃ e, e ∈ o.after ∧ Region.binds .any e = true ∧ (j = e.on ∨ (B.getD e.on 0).testBit j = true)

theorem bits_fold {B : Array Nat} {j : Nat} : ∀ (l : List Edge) (s : Nat), (l.foldl (fun s e => if Region.binds .any e then s ||| 2 ^ e.on ||| B.getD e.on 0 else s) s).testBit j = true →
    s.testBit j = true ∨ ∃ e, e ∈ l ∧ Region.binds .any e = true ∧ (j = e.on ∨ (B.getD e.on 0).testBit j = true)
  | [], s, h => .inl h
  | e :: l, s, h => by
    simp only [List.foldl_cons] at h
    rcases bits_fold l _ h with h1 | ⟨e', h1, h2⟩
    · split at h1
      · rename_i hb
        rw [Nat.testBit_or, Nat.testBit_or, Bool.or_eq_true, Bool.or_eq_true] at h1
        rcases h1 with (h1 | h1) | h1
        · exact .inl h1
        · rw [Nat.testBit_two_pow] at h1
          exact .inr ⟨e, List.mem_cons_self, hb, .inl (by simpa using (of_decide_eq_true h1).symm)⟩
        · exact .inr ⟨e, List.mem_cons_self, hb, .inr h1⟩
      · exact .inl h1
    · exact .inr ⟨e', List.mem_cons_of_mem _ h1, h2⟩

theorem orderOk {ops : Array Oper} {B : Array Nat} (h : orderB ops B = true) : OrderOk ops B := by
  unfold orderB at h
  rw [List.all_eq_true] at h
  refine ⟨fun k o e hk he hb => ?_, fun k o j hk hj => ?_⟩
  · have := h k (List.mem_range.2 (Array.getElem?_eq_some_iff.1 hk).1)
    rw [hk] at this
    simp only [Bool.and_eq_true] at this
    have h2 := List.all_eq_true.1 this.2 e (Array.mem_toList_iff.2 he)
    simpa [hb] using h2
  · have := h k (List.mem_range.2 (Array.getElem?_eq_some_iff.1 hk).1)
    rw [hk] at this
    simp only [Bool.and_eq_true, beq_iff_eq] at this
    rw [this.1] at hj
    rcases bits_fold _ _ hj with h1 | ⟨e, h1, h2⟩
    · simp at h1
    · exact ⟨e, Array.mem_toList_iff.1 h1, h2⟩

theorem bits_lt {ops : Array Oper} {B : Array Nat} (hB : OrderOk ops B) : ∀ (n k : Nat), k ≤ n → ∀ o j, ops[k]? = some o → (B.getD k 0).testBit j = true → j < k := by
  intro n
  induction n with
  | zero =>
    intro k hk o j ho hj
    obtain ⟨e, h1, h2, h3⟩ := hB.bits k o j ho hj
    have := hB.back k o e ho h1 h2
    omega
  | succ n ih =>
    intro k hk o j ho hj
    obtain ⟨e, h1, h2, h3⟩ := hB.bits k o j ho hj
    have h4 := hB.back k o e ho h1 h2
    rcases h3 with h3 | h3
    · omega
    · have hlt : k < ops.size := (Array.getElem?_eq_some_iff.1 ho).1
      have := ih e.on (by omega) ops[e.on] j (Array.getElem?_eq_getElem (by omega)) h3
      omega

theorem getD_flip {l : Array Bool} {j : Nat} (h : j < l.size) (d d' : Bool) : l.getD j d = l.getD j d' := by
  rw [Array.getD_eq_getD_getElem?, Array.getD_eq_getD_getElem?, Array.getElem?_eq_getElem h]
  rfl

theorem getD_put {l : Array Bool} {i j : Nat} (hi : i < l.size) : (l.setIfInBounds i true).getD j true = if i = j then true else l.getD j true := by
  rw [Array.getD_eq_getD_getElem?, Array.getD_eq_getD_getElem?, Array.getElem?_setIfInBounds]
  split
  · rfl
  · rfl

theorem mem_mid {α : Type} {q x : α} {L1 L2 : List α} (h : q ∈ L1 ++ L2) : q ∈ L1 ++ x :: L2 := by
  rcases List.mem_append.1 h with h | h
  · exact List.mem_append_left _ h
  · exact List.mem_append_right _ (List.mem_cons_of_mem _ h)

section
variable {P : Program} {b : Beg}

theorem any_sound {ops : Array Oper} {Q : Exit → Act → World → Prop} {B : Array Nat} (hB : OrderOk ops B) : ∀ (n : Nat) (L : List (Nat × Dec)) (listed : Array Bool) {X : Ctx} {s s' : St} {ps : List Prop} {a : Act}, L.length = n →
    L.Pairwise (fun p q => p.1 < q.1) → (∀ p ∈ L, ops[p.1]? = some p.2.o) → listed.size = ops.size → (∀ j, j < ops.size → (listed.getD j true = false ↔ j ∈ L.map Prod.fst)) →
    L.Pairwise (fun p q => (B.getD q.1 0).testBit p.1 = true ∨ Indep ops p.2 q.2) →
    (∀ k, k < ops.size → listed.getD k true = true → ∀ j, (B.getD k 0).testBit j = true → listed.getD j true = true) →
    Mem b X → RelDs X s.tmps a.tmps.toList → X.H = s.heap → (∀ p ∈ L, b.n ≤ p.2.nid) →
    runD P ops (L.map Prod.snd) s = some (s', ps) → (∀ p ∈ ps, p) →
    (∀ X' a', Mem b X' → RelDs X' s'.tmps a'.tmps.toList → X'.H = s'.heap → a'.defers = a.defers → Le X X' → Q .normal a' X'.w) → wpAny P .any ops Q n listed a X.w := by
  intro n
  induction n with
  | zero =>
    intro L listed X s s' ps a hn hsort hops hsz hkeys hind hdown M hT hH hnid h hps hQ
    have hL : L = [] := List.length_eq_zero_iff.1 hn
    subst hL
    simp only [List.map_nil, runD, Option.some.injEq, Prod.mk.injEq] at h
    obtain ⟨rfl, rfl⟩ := h
    refine ⟨?_, hQ X a M hT hH rfl (Le.refl X)⟩
    rw [List.eq_nil_iff_forall_not_mem]
    intro i hi
    obtain ⟨h0, o, ho, _⟩ := mem_ready.1 hi
    have := (hkeys i (Array.getElem?_eq_some_iff.1 ho).1).1 h0
    simp at this
  | succ n ih =>
    intro L listed X s s' ps a hn hsort hops hsz hkeys hind hdown M hT hH hnid h hps hQ
    have hlistedOf : ∀ j, j < ops.size → j ∉ L.map Prod.fst → listed.getD j true = true := by
      intro j hj hm
      cases hv : listed.getD j true with
      | true => rfl
      | false => exact absurd ((hkeys j hj).1 hv) hm
    refine ⟨?_, ?_⟩
    · intro hnone
      exfalso
      cases L with
      | nil => simp at hn
      | cons p L =>
        obtain ⟨i0, d0⟩ := p
        have ho := hops (i0, d0) List.mem_cons_self
        have hi0 : i0 < ops.size := (Array.getElem?_eq_some_iff.1 ho).1
        have : i0 ∈ Region.ready .any ops listed := by
          rw [mem_ready]
          refine ⟨(hkeys i0 hi0).2 (by simp), d0.o, ho, fun e he hb => ?_⟩
          have h1 := hB.back i0 _ e ho he hb
          rw [getD_flip (by omega) false true]
          refine hlistedOf e.on (by omega) ?_
          intro hm
          obtain ⟨q, hq, hqe⟩ := List.mem_map.1 hm
          rcases List.mem_cons.1 hq with h2 | h2
          · subst h2
            simp at hqe
            omega
          · have := (List.pairwise_cons.1 hsort).1 q h2
            simp at this
            omega
        rw [hnone] at this
        cases this
    · intro i hi
      obtain ⟨h0, o, ho, hall⟩ := mem_ready.1 hi
      have hisz : i < ops.size := (Array.getElem?_eq_some_iff.1 ho).1
      obtain ⟨p, hp, hpi⟩ := List.mem_map.1 ((hkeys i hisz).1 h0)
      obtain ⟨i', d⟩ := p
      simp only at hpi
      subst hpi
      obtain ⟨L1, L2, rfl⟩ := List.append_of_mem hp
      have ho' := hops (i', d) hp
      rw [ho] at ho'
      simp only [Option.some.injEq] at ho'
      -- what must come before has come
      have hbits : ∀ j, (B.getD i' 0).testBit j = true → listed.getD j true = true := by
        intro j hj
        obtain ⟨e, h1, h2, h3⟩ := hB.bits i' o j ho hj
        have h4 := hB.back i' o e ho h1 h2
        have h5 := hall e h1 h2
        rw [getD_flip (by omega) false true] at h5
        rcases h3 with h3 | h3
        · rw [h3]
          exact h5
        · exact hdown e.on (by omega) h5 j h3
      have hpw := List.pairwise_append.1 hind
      have hsw := List.pairwise_append.1 hsort
      have hI : ∀ x ∈ L1.map Prod.snd, Indep ops x d := by
        intro x hx
        obtain ⟨q, hq, rfl⟩ := List.mem_map.1 hx
        rcases hpw.2.2 q hq (i', d) List.mem_cons_self with h1 | h1
        · have h2 := hbits _ h1
          have h3 := hops q (List.mem_append_left _ hq)
          have h4 := (hkeys q.1 (Array.getElem?_eq_some_iff.1 h3).1).2 (List.mem_map_of_mem (List.mem_append_left _ hq))
          rw [h2] at h4
          cases h4
        · exact h1
      rw [List.map_append, List.map_cons] at h
      obtain ⟨ps', h', hsub⟩ := runD_front _ hI h
      simp only [runD] at h'
      split at h'
      · rename_i s1 p1 hs
        split at h'
        · rename_i s2 p2 hr
          simp only [Option.some.injEq, Prod.mk.injEq] at h'
          obtain ⟨rfl, rfl⟩ := h'
          refine stepD_wp M hT hH (hnid _ hp) hs (fun p hp => hps p (hsub p (List.mem_append_left _ hp))) (by rw [ho, ho']) ?_
          intro X' a' M' hT' hH' hd' L'
          have hnotin : ∀ q ∈ L1 ++ L2, q.1 ≠ i' := by
            intro q hq e
            rcases List.mem_append.1 hq with h1 | h1
            · have := hsw.2.2 q h1 (i', d) List.mem_cons_self
              simp at this
              omega
            · have := (List.pairwise_cons.1 hsw.2.1).1 q h1
              simp at this
              omega
          refine ih (L1 ++ L2) (listed.setIfInBounds i' true) ?_ ?_ ?_ (by simpa using hsz) ?_ ?_ ?_ M' hT' hH' ?_ (by rw [List.map_append]; exact hr) (fun p hp => hps p (hsub p (List.mem_append_right _ hp))) ?_
          · simp at hn ⊢
            omega
          · exact hsort.sublist ((List.sublist_cons_self _ _).append_left L1)
          · intro q hq
            exact hops q (mem_mid hq)
          · intro j hj
            rw [getD_put (by omega)]
            split
            · rename_i e
              subst e
              simp only [Bool.true_eq_false, false_iff]
              intro hm
              obtain ⟨q, hq, hqe⟩ := List.mem_map.1 hm
              exact hnotin q hq hqe
            · rename_i e
              rw [hkeys j hj]
              simp only [List.map_append, List.map_cons, List.mem_append, List.mem_cons]
              constructor
              · rintro (h | h | h)
                · exact .inl h
                · exact absurd h.symm e
                · exact .inr h
              · rintro (h | h)
                · exact .inl h
                · exact .inr (.inr h)
          · exact hind.sublist ((List.sublist_cons_self _ _).append_left L1)
          · intro k hk hkl j hj
            rw [getD_put (by omega)] at hkl ⊢
            split
            · rfl
            · split at hkl
              · rename_i e
                subst e
                exact hbits j hj
              · exact hdown k hk hkl j hj
          · intro q hq
            exact hnid q (mem_mid hq)
          · intro X'' a'' M'' hT'' hH'' hd'' L''
            exact hQ X'' a'' M'' hT'' hH'' (hd''.trans hd') (L'.trans L'')
        · cases h'
      · cases h'

end

/-- The decs of a region, one by one. -/
theorem decs_get (sp : Sp) (asm : List (Nat × Bool)) : ∀ (os : List Oper) (i nid k : Nat) {d : Dec}, (decs sp asm i nid os)[k]? = some d → os[k]? = some d.o ∧ nid ≤ d.nid
  | [], _, _, _, _, h => by simp [decs] at h
  | o :: os, i, nid, 0, d, h => by
    simp only [decs, List.getElem?_cons_zero, Option.some.injEq] at h
    subst h
    exact ⟨rfl, Nat.le_refl _⟩
  | o :: os, i, nid, k + 1, d, h => by
    simp only [decs, List.getElem?_cons_succ] at h
    obtain ⟨h1, h2⟩ := decs_get sp asm os _ _ _ h
    exact ⟨by simpa using h1, by omega⟩

theorem decs_length (sp : Sp) (asm : List (Nat × Bool)) : ∀ (os : List Oper) (i nid : Nat), (decs sp asm i nid os).length = os.length
  | [], _, _ => rfl
  | o :: os, i, nid => by simp [decs, decs_length sp asm os]

theorem decs_rng (sp : Sp) (asm : List (Nat × Bool)) : ∀ (os : List Oper) (i nid : Nat) {j k : Nat} {x y : Dec}, j < k → (decs sp asm i nid os)[j]? = some x → (decs sp asm i nid os)[k]? = some y → x.nid + x.cnt ≤ y.nid
  | [], _, _, _, _, _, _, _, h, _ => by simp [decs] at h
  | o :: os, i, nid, 0, k + 1, x, y, hjk, hx, hy => by
    simp only [decs, List.getElem?_cons_zero, Option.some.injEq, List.getElem?_cons_succ] at hx hy
    subst hx
    exact (decs_get sp asm os _ _ _ hy).2
  | o :: os, i, nid, j + 1, k + 1, x, y, hjk, hx, hy => by
    simp only [decs, List.getElem?_cons_succ] at hx hy
    exact decs_rng sp asm os _ _ (by omega) hx hy
  | o :: os, i, nid, _, 0, x, y, hjk, hx, hy => by omega

def guard1 (b : Array Nat) (all : List (Nat × Dec)) (p : Nat × Dec) : Dec :=
  { p.2 with
    forb := all.flatMap fun (j, e) => if j ≠ p.1 && !ordered b p.1 j then List.range' e.nid e.cnt else []
    wr := all.all fun (j, e) => j = p.1 || ordered b p.1 j || !heapy e.o }

theorem guardDecs_map (b : Array Nat) (all : List (Nat × Dec)) : ∀ l, guardDecs b all l = l.map (guard1 b all)
  | [] => rfl
  | (i, d) :: ds => by
    simp only [guardDecs, List.map_cons, guardDecs_map b all ds]
    rfl

end Go.Proofs.YtnakmganodkliaaAm
