/- What a call has come to, by the state at its end. -/
import Derived.Test.YtnakmganodkliaaAmN
set_option linter.unusedVariables false
set_option linter.unusedSimpArgs false
namespace Go.Proofs.YtnakmganodkliaaAm
open Go

section
variable {P : Program} {b : Beg} {X : Ctx}

theorem frzD_live (M : Mem b X) {h : Option Ty} {d d' : D} {ks : List Nat} {u : Value} (hf : frzD (hget X.H) h d = some (d', ks)) (hr : RelD X d u) : ∀ id ∈ ks, hget X.H id ≠ none := by
  cases h with
  | none =>
    simp only [frzD, Option.some.injEq, Prod.mk.injEq] at hf
    rw [← hf.2]
    simp
  | some t =>
    simp only [frzD] at hf
    split at hf
    · rename_i cs hcs
      obtain ⟨h1, h2⟩ := cellsOf_rel hcs hr
      split at hf
      · rename_i x hx
        have := (ofCells_rel (S' := fun _ => True) M (fun _ _ => trivial) (hget X.H) (fun _ _ h => h) t cs x _ hx h1 (fun _ _ _ _ => trivial)).2.1
        split at hf
        · simp only [Option.some.injEq, Prod.mk.injEq] at hf
          rw [← hf.2]
          exact this
        · split at hf
          · simp only [Option.some.injEq, Prod.mk.injEq] at hf
            rw [← hf.2]
            exact this
          · cases hf
      · cases hf
    · cases hf

theorem frzDs_live (M : Mem b X) : ∀ {hs : List (Option Ty)} {ds ds' : List D} {ks : List Nat} {us : List Value}, frzDs (hget X.H) hs ds = some (ds', ks) → RelDs X ds us → ∀ id ∈ ks, hget X.H id ≠ none
  | [], [], _, _, _, h, _ => by simp only [frzDs, Option.some.injEq, Prod.mk.injEq] at h; rw [← h.2]; simp
  | [], _ :: _, _, _, _, h, _ => by simp [frzDs] at h
  | _ :: _, [], _, _, _, h, _ => by simp [frzDs] at h
  | h0 :: hs, d :: ds, ds', ks, us, h, hr => by
    simp only [frzDs] at h
    split at h
    · rename_i d1 k1 ds1 ks1 e1 e2
      simp only [Option.some.injEq, Prod.mk.injEq] at h
      simp only [RelDs] at hr
      obtain ⟨u, us', rfl, r1, r2⟩ := hr
      rw [← h.2]
      intro id hid
      rcases List.mem_append.1 hid with h | h
      · exact frzD_live M e1 r1 id h
      · exact frzDs_live M e2 r2 id h
    · cases h

theorem frzD_rel (M : Mem b X) {Y : Ctx} (hle : Le X Y) (hw : Y.w = X.w) (hS : ∀ k, X.S k → Y.S k) {h : Option Ty} {d d' : D} {ks : List Nat} {u : Value} (hf : frzD (hget X.H) h d = some (d', ks)) (hks : ∀ id ∈ ks, ∀ l, X.ρ id = some l → Y.S l.b)
    (hr : RelD X d u) : RelD Y d' u := by
  cases h with
  | none =>
    simp only [frzD, Option.some.injEq, Prod.mk.injEq] at hf
    rw [← hf.1]
    exact hle.d hr
  | some t =>
    simp only [frzD] at hf
    split at hf
    · rename_i cs hcs
      obtain ⟨h1, h2⟩ := cellsOf_rel hcs hr
      split at hf
      · rename_i x hx
        split at hf
        · rename_i cs0
          simp only [Option.some.injEq, Prod.mk.injEq] at hf
          obtain ⟨rfl, rfl⟩ := hf
          have hE := (ofCells_rel (S' := Y.S) M hS (hget X.H) (fun _ _ h => h) t cs x _ hx h1 hks).1
          rw [← hw] at hE
          simp only [RelD] at hr ⊢
          obtain ⟨us, e, _⟩ := hr
          subst e
          exact ⟨us, rfl, by simpa [Value.cells] using relE_cells Y t x _ hE⟩
        · rename_i hne
          split at hf
          · rename_i y hy
            simp only [Option.some.injEq, Prod.mk.injEq] at hf
            obtain ⟨rfl, rfl⟩ := hf
            have hE := (ofCells_rel (S' := Y.S) M hS (hget X.H) (fun _ _ h => h) t cs x _ hx h1 hks).1
            rw [← hw] at hE
            have hR := relE_cells Y t x _ hE
            rw [hy] at hR
            obtain ⟨v, hv, hv2⟩ := relDs_one.1 hR
            have hu : u.cells = #[u] := by
              unfold cellsOf at hcs
              split at hcs
              · rename_i cs1
                exact absurd rfl (hne cs1)
              · split at hcs
                · rename_i hc
                  exact (cell_one hc hr).2
                · cases hcs
            rw [hu] at hv
            simp only [List.cons.injEq, and_true] at hv
            rw [hv]
            exact hv2
          · cases hf
      · cases hf
    · cases hf

theorem frzDs_rel (M : Mem b X) {Y : Ctx} (hle : Le X Y) (hw : Y.w = X.w) (hS : ∀ k, X.S k → Y.S k) : ∀ {hs : List (Option Ty)} {ds ds' : List D} {ks : List Nat} {us : List Value}, frzDs (hget X.H) hs ds = some (ds', ks) →
    (∀ id ∈ ks, ∀ l, X.ρ id = some l → Y.S l.b) → RelDs X ds us → RelDs Y ds' us
  | [], [], _, _, _, h, _, hr => by simp only [frzDs, Option.some.injEq, Prod.mk.injEq] at h; rw [← h.1]; exact hr
  | [], _ :: _, _, _, _, h, _, _ => by simp [frzDs] at h
  | _ :: _, [], _, _, _, h, _, _ => by simp [frzDs] at h
  | h0 :: hs, d :: ds, ds', ks, us, h, hks, hr => by
    simp only [frzDs] at h
    split at h
    · rename_i d1 k1 ds1 ks1 e1 e2
      simp only [Option.some.injEq, Prod.mk.injEq] at h
      simp only [RelDs] at hr
      obtain ⟨u, us', rfl, r1, r2⟩ := hr
      rw [← h.1]
      rw [← h.2] at hks
      simp only [RelDs]
      exact ⟨u, us', rfl, frzD_rel M hle hw hS e1 (fun id hid => hks id (List.mem_append_left _ hid)) r1, frzDs_rel M hle hw hS e2 (fun id hid => hks id (List.mem_append_right _ hid)) r2⟩
    · cases h

/-- One result, as the machine takes it. -/
def resOne (tmps : Array Value) : ResultVar → Sem Value
  | .tmp t => pure (tmps.getD t undef)
  | .cell a t => do loadVar t (← asAddr (tmps.getD a undef))

theorem resD_rel (M : Mem b X) {tmps : List D} {a : Act} (hT : RelDs X tmps a.tmps.toList) {r : ResultVar} {d : D} (h : resD P X.H tmps r = some d) :
    ∃ v, (resOne a.tmps r).run P X.w = .ok v X.w ∧ RelD X d v := by
  have hev : ∀ t, RelD X (tmps.getD t .top) (a.tmps.getD t undef) := fun t => evalD_rel hT (.tmp t)
  cases r with
  | tmp t =>
    simp only [resD, Option.some.injEq] at h
    subst h
    exact ⟨_, by simp [resOne], hev t⟩
  | cell at' t =>
    simp only [resD] at h
    split at h
    · rename_i s hs
      obtain ⟨i, hi, hu, rfl⟩ := sizeB_some hs
      have he := hev at'
      split at h
      · rename_i id j off hd
        rw [hd] at he
        split at h
        · rename_i bt cs hr
          split at h
          · rename_i hfit
            obtain ⟨v, h1, h2⟩ := s_load_box (P := P) M hi hu he hr hfit h
            obtain ⟨l, _, _, _, e, _⟩ := ptr_cells M he hr
            refine ⟨v, ?_, h2⟩
            rw [e] at h1
            simp only [resOne, e]
            simpa [Instr.loadAt, Instr.sureAddr, asAddr] using h1
          · cases h
        · cases h
      · cases h
    · cases h

theorem resDs_rel (M : Mem b X) {tmps : List D} {a : Act} (hT : RelDs X tmps a.tmps.toList) : ∀ {rs : List ResultVar} {ds : List D}, resDs P X.H tmps rs = some ds →
    ∃ vs, (rs.mapM (resOne a.tmps)).run P X.w = .ok vs X.w ∧ RelDs X ds vs
  | [], ds, h => by
    simp only [resDs, Option.some.injEq] at h
    subst h
    exact ⟨[], by simp, by simp only [RelDs]⟩
  | r :: rs, ds, h => by
    simp only [resDs] at h
    split at h
    · rename_i d ds' h1 h2
      simp only [Option.some.injEq] at h
      subst h
      obtain ⟨v, e1, r1⟩ := resD_rel M hT h1
      obtain ⟨vs, e2, r2⟩ := resDs_rel M hT h2
      refine ⟨v :: vs, ?_, by simp only [RelDs]; exact ⟨v, vs, rfl, r1, r2⟩⟩
      simp [List.mapM_cons, e1, e2]
    · cases h

def retV : List Value → Value
  | [v] => v
  | vs => .tuple vs.toArray

theorem results_run {fn : Func} {tmps : Array Value} {w : World} {vs : List Value} (h : (fn.results.toList.mapM (resOne tmps)).run P w = .ok vs w) :
    (results fn tmps).run P w = .ok (retV vs) w := by
  have e : results fn tmps = (do
      let vs ← fn.results.mapM (resOne tmps)
      pure (if h : vs.size = 1 then vs[0] else .tuple vs) : Sem Value) := by
    unfold results
    congr 1
  rw [e, Array.mapM_eq_mapM_toList]
  simp only [Sem.run_bind, map_eq_pure_bind]
  simp only [bind_assoc, pure_bind, Sem.run_bind, h]
  match vs with
  | [] => simp [retV]
  | [v] => simp [retV]
  | _ :: _ :: _ => simp [retV]

theorem rowsOf_some : ∀ {l : List Slot} {rs : List Row}, rowsOf l = some rs → l = rs.map .live
  | [], rs, h => by simp only [rowsOf, Option.some.injEq] at h; subst h; rfl
  | .live r :: l, rs, h => by
    simp only [rowsOf, Option.map_eq_some_iff] at h
    obtain ⟨rs', h, rfl⟩ := h
    simp [rowsOf_some h]
  | .free :: _, _, h => by simp [rowsOf] at h
  | .dead :: _, _, h => by simp [rowsOf] at h

theorem optsOf_some : ∀ {l : List Slot} {rs : List (Option Row)}, optsOf l = some rs → l = rs.map slotOf
  | [], rs, h => by simp only [optsOf, Option.some.injEq] at h; subst h; rfl
  | .live r :: l, rs, h => by
    simp only [optsOf, Option.map_eq_some_iff] at h
    obtain ⟨rs', h, rfl⟩ := h
    simp [optsOf_some h, slotOf]
  | .free :: _, _, h => by simp [optsOf] at h
  | .dead :: l, rs, h => by
    simp only [optsOf, Option.map_eq_some_iff] at h
    obtain ⟨rs', h, rfl⟩ := h
    simp [optsOf_some h, slotOf]

theorem retD_rel {Y : Ctx} : ∀ {rs : List D} {vs : List Value}, RelDs Y rs vs → RelD Y (retD rs) (retV vs)
  | [], vs, hr2 => by
    simp only [RelDs] at hr2
    subst hr2
    simp only [retD, RelD, retV]
    exact ⟨[], rfl, by simp only [RelDs]⟩
  | [d], vs, hr2 => by
    obtain ⟨u, rfl, hu⟩ := relDs_one.1 hr2
    exact hu
  | d1 :: d2 :: rest, vs, hr2 => by
    have hr3 := hr2
    simp only [RelDs] at hr2
    obtain ⟨u1, us1, rfl, _, u2, us2, rfl, _⟩ := hr2
    simp only [retD, RelD, retV]
    exact ⟨_, rfl, hr3⟩

theorem fin_rel {fn : Func} {n : Nat} {how : List (Option Ty)} {s : St} {a : Act} (R : Rel b X s a) (hn : b.n = n) {val : D} {post : List (Option Row)} {allocs : List Row}
    (h : finS P fn.results.toList n how s = some (val, post, allocs)) :
    ∃ v ρ' S', (results fn a.tmps).run P X.w = .ok v X.w ∧ Mem b ⟨ρ', post.map slotOf ++ allocs.map .live, S', X.w⟩ ∧ RelD ⟨ρ', post.map slotOf ++ allocs.map .live, S', X.w⟩ val v := by
  unfold finS at h
  split at h
  · rename_i ds hds
    split at h
    · rename_i ds' ks hf
      simp only at h
      split at h
      · rename_i hg
        simp only [Bool.and_eq_true] at hg
        split at h
        · rename_i post' allocs' hp ha
          simp only [Option.some.injEq, Prod.mk.injEq] at h
          obtain ⟨rfl, rfl, rfl⟩ := h
          rw [← R.heap] at hds hf hg hp ha
          obtain ⟨vs, hrun, hr⟩ := resDs_rel R.mem R.tmps hds
          have hlive := frzDs_live R.mem hf hr
          obtain ⟨Y, MY, LY, hYH, hYρ, hYw, hYS, hYk, _⟩ := mem_kills ks R.mem hg.1 hlive
          have hr' := frzDs_rel R.mem LY hYw hYS hf hYk hr
          rw [← hYH] at hg hp ha
          have MP := mem_pack MY hn hg.2
          have hin : inB (gcIds n Y.H ds') (refsDs ds') = true := by
            have := hg.2
            unfold packOk at this
            simp only [Bool.and_eq_true] at this
            exact this.1.2
          have hr2 := pack_rels (gcIds n Y.H ds') hin hr'
          have hH : packH (gcIds n Y.H ds') Y.H = post'.map slotOf ++ allocs'.map .live := by
            rw [← optsOf_some hp, ← rowsOf_some ha, List.take_append_drop]
          have hX : packX Y (gcIds n Y.H ds') = ⟨fun k => Y.ρ ((gcIds n Y.H ds').getD k 0), post'.map slotOf ++ allocs'.map .live, Y.S, X.w⟩ := by
            unfold packX
            rw [hH, hYw]
          rw [hX] at MP hr2
          refine ⟨_, _, _, results_run hrun, MP, ?_⟩
          have e : Y.H = setWrites s.heap (ks.map fun i => (i, none)) := by rw [hYH, R.heap]
          rw [← e]
          exact retD_rel hr2
        · cases h
      · cases h
    · cases h
  · cases h

end
end Go.Proofs.YtnakmganodkliaaAm
