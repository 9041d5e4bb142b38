/- A region does what is computed of it. -/
import Derived.Test.YtnakmganodkliaaAmL
set_option linter.unusedVariables false
set_option linter.unusedSimpArgs false
namespace Go.Proofs.YtnakmganodkliaaAm
open Go

theorem ordered_comm (b : Array Nat) (i j : Nat) : ordered b i j = ordered b j i := by unfold ordered; exact Bool.or_comm _ _

theorem numbered_get {l : List Dec} {k : Nat} {p : Nat × Dec} : (numbered l)[k]? = some p ↔ p.1 = k ∧ l[k]? = some p.2 := by
  unfold numbered
  rw [List.getElem?_zip_eq_some]
  constructor
  · rintro ⟨h1, h2⟩
    refine ⟨?_, h2⟩
    rw [List.getElem?_range (List.getElem?_eq_some_iff.1 h2).1] at h1
    exact (Option.some.inj h1).symm
  · rintro ⟨h1, h2⟩
    refine ⟨?_, h2⟩
    rw [List.getElem?_range (List.getElem?_eq_some_iff.1 h2).1, h1]

theorem numbered_length (l : List Dec) : (numbered l).length = l.length := by simp [numbered]

theorem numbered_snd (l : List Dec) : (numbered l).map Prod.snd = l := List.map_snd_zip (by simp)

theorem numbered_fst (l : List Dec) : (numbered l).map Prod.fst = List.range l.length := List.map_fst_zip (by simp)

theorem guard_indep {ops : Array Oper} {sp : Sp} {asm : List (Nat × Bool)} {n : Nat} {B : Array Nat} (hap : apartAll ops B = true) {i j : Nat} {x y : Dec} (hij : i < j)
    (hx : (decs sp asm 0 n ops.toList)[i]? = some x) (hy : (decs sp asm 0 n ops.toList)[j]? = some y) (ho : ordered B i j = false) :
    Indep ops (guard1 B (numbered (decs sp asm 0 n ops.toList)) (i, x)) (guard1 B (numbered (decs sp asm 0 n ops.toList)) (j, y)) := by
  have hmx : (i, x) ∈ numbered (decs sp asm 0 n ops.toList) := List.mem_of_getElem? (numbered_get.2 ⟨rfl, hx⟩)
  have hmy : (j, y) ∈ numbered (decs sp asm 0 n ops.toList) := List.mem_of_getElem? (numbered_get.2 ⟨rfl, hy⟩)
  have ho' : ordered B j i = false := by rw [ordered_comm]; exact ho
  obtain ⟨gx, _⟩ := decs_get sp asm ops.toList 0 n i hx
  obtain ⟨gy, _⟩ := decs_get sp asm ops.toList 0 n j hy
  rw [Array.getElem?_toList] at gx gy
  have hj : j < ops.size := (Array.getElem?_eq_some_iff.1 gy).1
  have hr := decs_rng sp asm _ _ _ hij hx hy
  refine ⟨?_, .inl hr, ?_, ?_, ?_, ?_⟩
  · unfold apartAll at hap
    have h1 := List.all_eq_true.1 (List.all_eq_true.1 hap j (List.mem_range.2 hj)) i (List.mem_range.2 hij)
    rw [ho, gx, gy] at h1
    show x.o.apart ops y.o = true
    simpa using h1
  · intro k hk
    show x.nid + k ∈ (numbered (decs sp asm 0 n ops.toList)).flatMap _
    rw [List.mem_flatMap]
    refine ⟨(i, x), hmx, ?_⟩
    have hne : i ≠ j := by omega
    have hk' : k < x.cnt := hk
    simp [hne, ho', List.mem_range']
    exact hk'
  · intro k hk
    show y.nid + k ∈ (numbered (decs sp asm 0 n ops.toList)).flatMap _
    rw [List.mem_flatMap]
    refine ⟨(j, y), hmy, ?_⟩
    have hne : j ≠ i := by omega
    have hk' : k < y.cnt := hk
    simp [hne, ho, List.mem_range']
    exact hk'
  · intro h
    have := List.all_eq_true.1 (show (numbered (decs sp asm 0 n ops.toList)).all _ = true from h) (j, y) hmy
    have hne : j ≠ i := by omega
    show heapy y.o = false
    simpa [hne, ho] using this
  · intro h
    have := List.all_eq_true.1 (show (numbered (decs sp asm 0 n ops.toList)).all _ = true from h) (i, x) hmx
    have hne : i ≠ j := by omega
    show heapy x.o = false
    simpa [hne, ho'] using this

/-- What holds between the regions of a call's body. -/
structure Rel (b : Beg) (X : Ctx) (s : St) (a : Act) : Prop where
  mem : Mem b X
  tmps : RelDs X s.tmps a.tmps.toList
  heap : X.H = s.heap
  len : b.n ≤ s.heap.length
  defers : a.defers = []

theorem slot_ext (H : Heap) (n id : Nat) : slot (H ++ List.replicate n .free) id = slot H id := by
  unfold slot
  rw [List.getD_eq_getElem?_getD, List.getD_eq_getElem?_getD]
  rcases Nat.lt_or_ge id H.length with h | h
  · rw [List.getElem?_append_left h]
  · rw [List.getElem?_append_right h, List.getElem?_eq_none h, List.getElem?_replicate]
    split <;> rfl

theorem mem_ext {b : Beg} {X : Ctx} (M : Mem b X) (n : Nat) : Mem b ⟨X.ρ, X.H ++ List.replicate n .free, X.S, X.w⟩ ∧ Le X ⟨X.ρ, X.H ++ List.replicate n .free, X.S, X.w⟩ := by
  have hs : ∀ id, slot (X.H ++ List.replicate n Slot.free) id = slot X.H id := slot_ext X.H n
  have hg : ∀ id, hget (X.H ++ List.replicate n Slot.free) id = hget X.H id := fun id => by unfold hget; rw [hs]
  have hle : Le X ⟨X.ρ, X.H ++ List.replicate n .free, X.S, X.w⟩ := by
    refine ⟨fun k hk => ⟨hk, rfl⟩, fun id => ?_⟩
    unfold Pair
    show match slot X.H id, slot (X.H ++ List.replicate n Slot.free) id with
      | .free, _ => True
      | _, .free => False
      | _, .dead => True
      | .dead, .live _ => False
      | .live r, .live r' => Comp r r' ∧ X.ρ id = X.ρ id
    rw [hs]
    cases slot X.H id with
    | free => trivial
    | dead => trivial
    | live r => exact ⟨Comp.refl r, rfl⟩
  refine ⟨⟨M.os, M.tape, M.output, M.size, ?_, ?_, ?_, M.stab, M.keep, ?_, ?_, M.sub, M.sup⟩, hle⟩
  · intro i j p q hi hj
    exact M.inj i j p q (by rw [← hg]; exact hi) (by rw [← hg]; exact hj)
  · intro id r hr
    exact relRow_le hle (fun _ _ => rfl) (M.rows id r (by rw [← hg]; exact hr))
  · intro id p hid
    exact M.sep id p (by rw [← hg]; exact hid)
  · intro id p hid
    exact M.fresh id p (by rw [← hg]; exact hid)
  · intro id h hid
    exact M.old id h (by rw [← hg]; exact hid)

theorem stepD_length {P : Program} {ops : Array Oper} {d : Dec} {s s' : St} {ps : List Prop} (h : stepD P ops d s = some (s', ps)) : s'.heap.length = s.heap.length := by
  rcases stepD_cases h with ⟨_, e, _⟩ | ⟨_, E, _, _, e, _⟩
  · rw [e]
  · rw [e]
    simp only [setWrites_length, setAllocs_length]

theorem runD_length {P : Program} {ops : Array Oper} : ∀ (ds : List Dec) {s s' : St} {ps : List Prop}, runD P ops ds s = some (s', ps) → s'.heap.length = s.heap.length
  | [], s, s', ps, h => by
    simp only [runD, Option.some.injEq, Prod.mk.injEq] at h
    rw [h.1]
  | d :: ds, s, s', ps, h => by
    simp only [runD] at h
    split at h
    · rename_i s1 p1 hs
      split at h
      · rename_i s2 p2 hr
        simp only [Option.some.injEq, Prod.mk.injEq] at h
        rw [← h.1, runD_length ds hr, stepD_length hs]
      · cases h
    · cases h

theorem run_region {P : Program} {b : Beg} {sp : Sp} {asm : List (Nat × Bool)} {ops : Array Oper} {draw : Bool} {s s' : St} {ps : List Prop} {X : Ctx} {a : Act} (R : Rel b X s a) (hm : P.follows .mixedOrders = true)
    (h : runR P sp asm ops draw s = some (s', ps)) (hps : ∀ p ∈ ps, p) {Q : Exit → Act → World → Prop} (hQ : ∀ X' a', Rel b X' s' a' → Q .normal a' X'.w) (id : Nat) : (Code.region id ops draw).wp P Q a X.w := by
  unfold runR at h
  simp only at h
  generalize ht : total ops.toList = n at h
  obtain ⟨M1, L1⟩ := mem_ext R.mem n
  have hlen : b.n ≤ (s.heap ++ List.replicate n Slot.free).length := by
    have := R.len
    simp
    omega
  split at h
  · rename_i hd
    subst hd
    split at h
    · rename_i hg
      rw [Bool.and_eq_true] at hg
      have hB := orderOk hg.2
      apply wp_region_any hm
      obtain ⟨M2, L2⟩ := mem_drew M1 _ rfl
      have hdecs : decsDraw sp asm s.heap.length ops = ((numbered (decs sp asm 0 s.heap.length ops.toList)).map (guard1 (Region.before ops) (numbered (decs sp asm 0 s.heap.length ops.toList)))) := by
        unfold decsDraw
        simp only
        rw [guardDecs_map]
      have hget : ∀ k p, (numbered (decsDraw sp asm s.heap.length ops))[k]? = some p → ∃ d, (decs sp asm 0 s.heap.length ops.toList)[k]? = some d ∧ p = (k, guard1 (Region.before ops) (numbered (decs sp asm 0 s.heap.length ops.toList)) (k, d)) := by
        intro k p hk
        obtain ⟨h1, h2⟩ := numbered_get.1 hk
        rw [hdecs, List.getElem?_map, Option.map_eq_some_iff] at h2
        obtain ⟨q, h3, h4⟩ := h2
        obtain ⟨h5, h6⟩ := numbered_get.1 h3
        obtain ⟨q1, q2⟩ := q
        simp only at h5 h6
        subst h5
        exact ⟨q2, h6, Prod.ext h1 h4.symm⟩
      have hlen2 : (decsDraw sp asm s.heap.length ops).length = ops.size := by
        rw [hdecs, List.length_map, numbered_length, decs_length]
        simp
      have hX : (⟨X.ρ, X.H ++ List.replicate n Slot.free, X.S, X.w⟩ : Ctx).w.drew = { X.w with drawn := X.w.drawn + 1 } := rfl
      rw [← hX]
      refine any_sound (b := b) (X := ⟨X.ρ, X.H ++ List.replicate n Slot.free, X.S, X.w.drew⟩) hB ops.size (numbered (decsDraw sp asm s.heap.length ops)) _ (s := ⟨s.tmps, s.heap ++ List.replicate n .free⟩)
        (by rw [numbered_length, hlen2]) ?_ ?_ (by simp) ?_ ?_ ?_ M2 (L2.ds (L1.ds R.tmps)) (by show X.H ++ _ = _; rw [R.heap]) ?_ (by rw [numbered_snd]; exact h) hps ?_
      · rw [List.pairwise_iff_getElem]
        intro i j hi hj hij
        have h1 := (numbered_get.1 (List.getElem?_eq_getElem hi)).1
        have h2 := (numbered_get.1 (List.getElem?_eq_getElem hj)).1
        rw [h1, h2]
        exact hij
      · intro p hp
        obtain ⟨k, hk⟩ := List.getElem?_of_mem hp
        obtain ⟨d, h1, h2⟩ := hget k p hk
        subst h2
        have := (decs_get sp asm ops.toList 0 _ k h1).1
        rw [Array.getElem?_toList] at this
        exact this
      · intro j hj
        rw [numbered_fst, hlen2]
        simp [hj, List.mem_range]
      · rw [List.pairwise_iff_getElem]
        intro i j hi hj hij
        obtain ⟨x, g1, g2⟩ := hget i _ (List.getElem?_eq_getElem hi)
        obtain ⟨y, g3, g4⟩ := hget j _ (List.getElem?_eq_getElem hj)
        rw [g2, g4]
        cases ho : ordered (Region.before ops) i j with
        | false => exact .inr (guard_indep hg.1 hij g1 g3 ho)
        | true =>
          left
          unfold ordered at ho
          rw [Bool.or_eq_true] at ho
          rcases ho with ho | ho
          · exact ho
          · have h1 := (decs_get sp asm ops.toList 0 _ i g1).1
            rw [Array.getElem?_toList] at h1
            have := bits_lt hB i i (Nat.le_refl _) _ j h1 ho
            omega
      · intro k hk hkl
        rw [Array.getD_eq_getD_getElem?, Array.getElem?_replicate] at hkl
        simp [hk] at hkl
      · intro p hp
        obtain ⟨k, hk⟩ := List.getElem?_of_mem hp
        obtain ⟨d, h1, h2⟩ := hget k p hk
        subst h2
        exact Nat.le_trans R.len (decs_get sp asm ops.toList 0 _ k h1).2
      · intro X' a' M' hT' hH' hd' _
        exact hQ X' a' ⟨M', hT', hH', by rw [runD_length _ h]; exact hlen, hd'.trans R.defers⟩
    · cases h
  · rename_i hd
    have hd' : draw = false := by simpa using hd
    subst hd'
    apply wp_region
    refine runD_wp (X := ⟨X.ρ, X.H ++ List.replicate n Slot.free, X.S, X.w⟩) _ _ (s := ⟨s.tmps, s.heap ++ List.replicate n .free⟩) M1 (L1.ds R.tmps) (by show X.H ++ _ = _; rw [R.heap]) ?_ h hps ?_ ?_
    · intro d hd
      obtain ⟨k, hk⟩ := List.getElem?_of_mem hd
      exact Nat.le_trans R.len (decs_get sp asm ops.toList 0 _ k hk).2
    · apply List.ext_getElem?
      intro k
      rw [List.getElem?_map, List.getElem?_map]
      rcases Nat.lt_or_ge k ops.size with hk | hk
      · rw [List.getElem?_range hk]
        have hk2 : k < (decs sp asm 0 s.heap.length ops.toList).length := by rw [decs_length]; simpa using hk
        have h1 := (decs_get sp asm ops.toList 0 _ k (List.getElem?_eq_getElem hk2)).1
        rw [Array.getElem?_toList] at h1
        rw [List.getElem?_eq_getElem hk2]
        simp only [Option.map_some, h1]
      · rw [List.getElem?_eq_none (by simpa using hk), List.getElem?_eq_none (by rw [decs_length]; simpa using hk)]
        rfl
    · intro X' a' M' hT' hH' hd' _
      exact hQ X' a' ⟨M', hT', hH', by rw [runD_length _ h]; exact hlen, hd'.trans R.defers⟩

end Go.Proofs.YtnakmganodkliaaAm
