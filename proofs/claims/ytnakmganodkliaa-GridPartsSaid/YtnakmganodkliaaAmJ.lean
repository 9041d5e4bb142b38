/- Every operation does what is computed of it; the operations of a region in the text's order. -/
import Derived.Test.YtnakmganodkliaaAmI
import Derived.Orders
set_option linter.unusedVariables false
set_option linter.unusedSimpArgs false
namespace Go.Proofs.YtnakmganodkliaaAm
open Go

theorem rowEq_all {rd : Nat → Option Row} {f : Nat → Nat} : ∀ {pre : List Row} {k0 : Nat}, (∀ p ∈ rowEq rd f k0 pre, p) → ∀ k r, pre[k]? = some r → rd (f (k0 + k)) = some (renRow f r)
  | [], _, _, k, r, h => by simp at h
  | r0 :: rs, k0, hp, 0, r, h => by
    simp only [List.getElem?_cons_zero, Option.some.injEq] at h
    subst h
    exact hp _ (by simp [rowEq])
  | r0 :: rs, k0, hp, k + 1, r, h => by
    simp only [List.getElem?_cons_succ] at h
    have := rowEq_all (k0 := k0 + 1) (fun p hm => hp p (by simp only [rowEq, List.mem_cons]; exact .inr hm)) k r h
    rwa [show k0 + (k + 1) = k0 + 1 + k by omega]

theorem shapeEq_all : ∀ {pre : List Row} {post : List (Option Row)} {qs : List Prop}, shapeEq pre post = some qs → (∀ q ∈ qs, q) →
    post.length = pre.length ∧ ∀ (k : Nat) (r r' : Row), pre[k]? = some r → post[k]? = some (some r') → Comp r r'
  | [], [], _, _, _ => ⟨rfl, fun k r r' h => by simp at h⟩
  | [], _ :: _, _, h, _ => by simp [shapeEq] at h
  | _ :: _, [], _, h, _ => by simp [shapeEq] at h
  | r0 :: rs, none :: ps, qs, h, hq => by
    have h' : shapeEq rs ps = some qs := by cases r0 <;> simpa [shapeEq] using h
    obtain ⟨h1, h2⟩ := shapeEq_all h' hq
    refine ⟨by simp [h1], fun k r r' ha hb => ?_⟩
    cases k with
    | zero => simp at hb
    | succ k => exact h2 k r r' (by simpa using ha) (by simpa using hb)
  | .box t cs :: rs, some (.box t' cs') :: ps, qs, h, hq => by
    have h' : shapeEq rs ps = some qs := by simpa [shapeEq] using h
    obtain ⟨h1, h2⟩ := shapeEq_all h' hq
    refine ⟨by simp [h1], fun k r r' ha hb => ?_⟩
    cases k with
    | zero =>
      simp at ha hb
      subst ha
      subst hb
      trivial
    | succ k => exact h2 k r r' (by simpa using ha) (by simpa using hb)
  | .data e t xs :: rs, some (.data e' t' ys) :: ps, qs, h, hq => by
    simp only [shapeEq] at h
    split at h
    · rename_i he
      rw [Option.map_eq_some_iff] at h
      obtain ⟨qs', h', rfl⟩ := h
      obtain ⟨h1, h2⟩ := shapeEq_all h' (fun q hm => hq q (List.mem_cons_of_mem _ hm))
      refine ⟨by simp [h1], fun k r r' ha hb => ?_⟩
      cases k with
      | zero =>
        simp at ha hb
        subst ha
        subst hb
        exact ⟨he.2, hq _ List.mem_cons_self⟩
      | succ k => exact h2 k r r' (by simpa using ha) (by simpa using hb)
    · cases h
  | .box _ _ :: _, some (.data _ _ _) :: _, _, h, _ => by simp [shapeEq] at h
  | .data _ _ _ :: _, some (.box _ _) :: _, _, h, _ => by simp [shapeEq] at h

section
variable {P : Program} {b : Beg} {X : Ctx}
variable {nid : Nat} {sp : Sp} {o : Oper} {E : Eff} {rd : Nat → Option Row}

/-- The machine does what was computed of the operation, whatever comes then. -/
def StepW (P : Program) (b : Beg) (X : Ctx) (nid : Nat) (o : Oper) (a : Act) (E : Eff) : Prop :=
  ∀ (K : Act → World → Prop) (Q : Exit → Act → World → Prop), (∀ X' v, Mem b X' → X'.H = setWrites (setAllocs X.H nid E.allocs) E.writes → Le X X' → RelD X' E.val v → K (a.put o.dst v) X'.w) →
    o.wp P a X.w K Q

theorem Step.wp {a : Act} (h : Step P b X nid o a.eval E) : StepW P b X nid o a E := by
  intro K Q hK
  obtain ⟨nx, v, X', h1, h2, h3, h4, h5, h6⟩ := h
  unfold Oper.wp
  rw [h1]
  rcases h2 with h2 | ⟨h2, h2'⟩
  · rw [h2, Oper.upon_value]
    exact hK X' v h3 h4 h5 h6
  · rw [h2, Oper.upon_skip, ← h2']
    exact hK X' v h3 h4 h5 h6

theorem exec_call {c : Call} {f : Operand} (ho : o.op = .call c) (hc : c.callee = .value f) {va : Operand → Value} {g : FuncId} {us : List Value} (hv : va f = .func (.func g) #[] us.toArray)
    {fn : Func} (hfn : P.funcs[g]? = some fn) (h1 : (fn.name == "runtime.NumGoroutine") = false) (h2 : fn.body.isNone = false) (w : World) :
    (execOp va o).run P w = .ok (.enter g (c.args.toList.map va ++ us).toArray) w := by
  have e : c.args.map va ++ us.toArray = (c.args.toList.map va ++ us).toArray := by
    apply Array.ext'
    simp
  simp only [execOp, ho, resolve, hc, hv, Deferred.ofValue]
  rw [Sem.run_bind]
  simp only [Sem.run_pure, invoke, callFunc]
  have h1' : fn.name ≠ "runtime.NumGoroutine" := by simpa using h1
  have h2' : fn.body ≠ none := fun e => by rw [e] at h2; cases h2
  simp [hfn, h1', h2', e]

theorem op_call (M : Mem b X) {a : Act} {ev : Operand → D} (hev : ∀ x, RelD X (ev x) (a.eval x)) (hrd : ∀ id r, rd id = some r → hget X.H id = some r) {c : Call} {f : Operand} (ho : o.op = .call c) (hc : c.callee = .value f)
    (h : opEff P rd nid sp o ev = some E) (hob : ∀ p ∈ E.obl, p) (hf : Free X nid E.allocs.length) (hn : b.n ≤ nid) : StepW P b X nid o a E := by
  simp only [opEff, ho, hc] at h
  have hfv := hev f
  split at h
  · rename_i g caps he
    split at h
    · rename_i n _
      unfold callEff at h
      rw [he] at hfv
      simp only [RelD] at hfv
      obtain ⟨us, hfu, hcaps⟩ := hfv
      simp only at h
      split at h
      · rename_i hg
        simp only [Bool.and_eq_true, decide_eq_true_eq] at hg
        obtain ⟨⟨⟨⟨⟨⟨⟨hgf, hl⟩, hnd⟩, hclosed⟩, hcla⟩, hcl⟩, hfrz⟩, hflat⟩ := hg
        split at h
        · rename_i ps qs hfit hsh
          simp only [Option.some.injEq] at h
          subst h
          simp only [List.mem_cons, List.mem_append, forall_eq_or_imp] at hob
          obtain ⟨hcon, hob⟩ := hob
          have hps : ∀ p ∈ ps, p := fun p hp => hob p (.inl (.inl hp))
          have hqs : ∀ p ∈ qs, p := fun p hp => hob p (.inl (.inr hp))
          have hre := rowEq_all (fun p hp => hob p (.inr hp))
          have hrows : ∀ (k : Nat) (r : Row), n.pre[k]? = some r → hget X.H (n.cap.getD k 0) = some (renRow (ren n.cap nid) r) := by
            intro k r hk
            have h1 := hrd _ _ (hre k r hk)
            have hk' : k < n.cap.length := by
              rw [← hl]
              exact (List.getElem?_eq_some_iff.1 hk).1
            rwa [Nat.zero_add, ren_cap hk'] at h1
          obtain ⟨hpl, hshape⟩ := shapeEq_all hsh hqs
          have hnd' := nodupB_iff.1 hnd
          have hcl' : ∀ i ∈ n.cap, i ∉ n.lent := by
            intro i hi
            have := List.all_eq_true.1 hcl i hi
            simpa using this
          have hfrz' : ∀ i ∈ n.frz, hget X.H i ≠ none := by
            intro i hi
            have := List.all_eq_true.1 hfrz i hi
            obtain ⟨r, hr⟩ := Option.isSome_iff_exists.1 this
            rw [hrd _ _ hr]
            simp
          have hflat' : n.lent = [] ∨ (flatD n.val = true ∧ (∀ r ∈ n.allocs, flatRow r = true) ∧ ∀ r, some r ∈ n.post → flatRow r = true) := by
            simp only [Bool.or_eq_true, Bool.and_eq_true, List.isEmpty_iff] at hflat
            refine hflat.imp id fun h => ⟨h.1.1, fun r hr => List.all_eq_true.1 h.1.2 r hr, fun r hr => ?_⟩
            have := List.all_eq_true.1 h.2 _ hr
            simpa using this
          obtain ⟨⟨fn, hfn, hname, hbody⟩, hcon⟩ := hcon
          subst hgf
          intro K Q hK
          unfold Oper.wp
          rw [exec_call ho hc hfu hfn hname hbody, Oper.upon_enter]
          have hargs : RelDs X (c.args.toList.map ev ++ caps) (c.args.toList.map a.eval ++ us) := by
            rw [relDs_append]
            exact ⟨_, _, rfl, relDs_map _ fun x _ => hev x, hcaps⟩
          have hargs' := fits_rel (nid := nid) M hrd (n.lent ++ n.frz) hl hrows _ _ _ _ hfit hps hcla hargs
          have hM := mem_callee (nid := nid) (frz := n.frz) (lent := n.lent) M hl hnd' hcl' hclosed hrows
          have := hcon X.w (capρ X n.cap) (softS X (n.lent ++ n.frz)) _ (by rw [hl]; exact hM) hargs'
          refine Calls.mono this ?_
          rintro e w' ⟨v, ρ', S', he', hM1, hv⟩
          subst he'
          simp only
          have hf' : Free X nid n.allocs.length := by simpa using hf
          rw [hl] at hM1
          obtain ⟨M2, L2, hr2⟩ := mem_called (nid := nid) M hl (hpl.trans hl) hnd' hcl' hrows hfrz' hshape hf' hn hflat' hM1 hv
          exact hK _ v M2 rfl L2 hr2
        · cases h
      · cases h
    · cases h
  · cases h

theorem op_wp (M : Mem b X) {a : Act} {ev : Operand → D} (hev : ∀ x, RelD X (ev x) (a.eval x)) (hrd : ∀ id r, rd id = some r → hget X.H id = some r)
    (h : opEff P rd nid sp o ev = some E) (hob : ∀ p ∈ E.obl, p) (hf : Free X nid E.allocs.length) (hn : b.n ≤ nid) : StepW P b X nid o a E := by
  cases ho : o.op with
  | move x => exact (op_move M hev (.inl ho) h).wp
  | assign x => exact (op_move M hev (.inr ho) h).wp
  | pick c x y => exact (op_pick M hev ho h).wp
  | alloc t => exact (op_alloc M ho h hf hn).wp
  | box t x => exact (op_box M hev ho h hf hn).wp
  | build t ps => exact (op_build M hev ho h).wp
  | buildSlice t n ps => exact (op_buildSlice M hev hrd ho h hf hn).wp
  | load t x => exact (op_load M hev hrd ho h hob).wp
  | store t x y => exact (op_store M hev hrd ho h hob).wp
  | nilCheck x => exact (op_nilCheck M hev hrd ho h).wp
  | binOp op t x y t' => exact (op_bin M hev ho h hob).wp
  | unOp op t x => exact (op_un M hev ho h).wp
  | convert s t x => exact (op_convert M hev ho h hob).wp
  | makeFunc f first caps => cases f with
    | func f => exact (op_makeFunc M hev ho h).wp
    | _ => simp [opEff, ho] at h
  | makeSlice t l c => exact (op_makeSlice M hev hrd ho h hob hf hn).wp
  | slice t x lo hi mx => exact (op_slice M hev hrd ho h hob).wp
  | fieldAddr t x f => exact (op_field M hev hrd ho h).wp
  | indexAddr t x i => exact (op_indexAddr M hev hrd ho h hob).wp
  | index t x i => exact (op_index M hev ho h hob).wp
  | extract t i => exact (op_extract M hev ho h).wp
  | call c => cases hc : c.callee with
    | value f => exact op_call M hev hrd ho hc h hob hf hn
    | builtin B => exact (op_builtin M hev hrd ho hc h hob hf hn).wp
    | invoke _ _ => simp [opEff, ho, hc] at h
  | _ => simp [opEff, ho] at h

theorem evalD_rel {tmps : List D} {a : Act} (hT : RelDs X tmps a.tmps.toList) (x : Operand) : RelD X (evalD tmps x) (a.eval x) := by
  cases x with
  | tmp t =>
    simp only [evalD, Act.eval]
    cases hg : tmps[t]? with
    | none =>
      rw [List.getD_eq_getElem?_getD, hg]
      simp only [Option.getD_none, RelD]
    | some d =>
      obtain ⟨u, hu, hr⟩ := relDs_get hT hg
      rw [List.getD_eq_getElem?_getD, hg, Array.getD_eq_getD_getElem?, ← Array.getElem?_toList, hu]
      exact hr
  | const v => simp only [evalD, Act.eval, RelD]
  | global g => simp only [evalD, RelD]
  | func f => simp only [evalD, Act.eval, RelD]; exact ⟨[], rfl, by simp only [RelDs]⟩

theorem relDs_set : ∀ {ds : List D} {us : List Value} {i : Nat} {d : D} {u : Value}, RelDs X ds us → RelD X d u → RelDs X (ds.set i d) (us.set i u)
  | [], us, i, d, u, h, _ => by simp only [RelDs] at h; subst h; simp [RelDs]
  | d0 :: ds, us, i, d, u, h, hd => by
    simp only [RelDs] at h
    obtain ⟨u0, us', rfl, h1, h2⟩ := h
    cases i with
    | zero => simp only [List.set_cons_zero, RelDs]; exact ⟨_, _, rfl, hd, h2⟩
    | succ i => simp only [List.set_cons_succ, RelDs]; exact ⟨_, _, rfl, h1, relDs_set h2 hd⟩

theorem putD_rel {tmps : List D} {a : Act} (hT : RelDs X tmps a.tmps.toList) (dst : Option Tmp) {d : D} {u : Value} (h : RelD X d u) : RelDs X (putD tmps dst d) (a.put dst u).tmps.toList := by
  cases dst with
  | none => exact hT
  | some t =>
    simp only [putD, Act.put, Array.toList_setIfInBounds]
    exact relDs_set hT h

theorem put_defers (a : Act) (dst : Option Tmp) (u : Value) : (a.put dst u).defers = a.defers := by cases dst <;> rfl

theorem wantedD_rel {ops : Array Oper} {tmps : List D} {a : Act} (hT : RelDs X tmps a.tmps.toList) {t : Bool} (h : wantedD ops tmps o = some t) : Region.wanted o (yielded ops a.tmps) = t := by
  unfold wantedD at h
  unfold Region.wanted
  cases hg : o.guard with
  | none => rw [hg] at h; simpa using h
  | some gw =>
    obtain ⟨j, want⟩ := gw
    rw [hg] at h
    simp only at h
    unfold yielded
    cases hd : (ops[j]?).bind (·.dst) with
    | none => rw [hd] at h; cases h
    | some t' =>
      rw [hd] at h
      try simp only at h
      try simp only [Option.bind_some]
      cases hx : tmps[t']? with
      | none => rw [hx] at h; cases h
      | some d =>
        rw [hx] at h
        obtain ⟨u, hu, hr⟩ := relDs_get hT hx
        rw [Array.getElem?_toList] at hu
        rw [hd]
        simp only [Option.bind_some, hu]
        split at h
        · rename_i c heq
          simp only [Option.some.injEq] at heq h
          subst heq
          subst h
          simp only [RelD] at hr
          subst hr
          simp
        · rename_i vs heq
          simp only [Option.some.injEq] at heq h
          subst heq
          subst h
          simp only [RelD] at hr
          subst hr
          simp
        · cases h

theorem freeB_free {H : Heap} (hH : X.H = H) {nid n : Nat} (h : freeB H nid n = true) : Free X nid n := by
  intro j hj
  unfold freeB at h
  have := List.all_eq_true.1 h j (List.mem_range.2 hj)
  simp only [Bool.and_eq_true, decide_eq_true_eq] at this
  rw [hH]
  refine ⟨?_, this.1⟩
  have h2 := this.2
  split at h2
  · assumption
  · cases h2

theorem effD_some {d : Dec} {ev : Operand → D} {rd : Nat → Option Row} {E : Eff} (h : effD P rd d ev = some E) (hps : ∀ p ∈ E.obl, p) :
    ∃ E0, opEff P rd d.nid d.sp d.o ev = some E0 ∧ (∀ p ∈ E0.obl, p) ∧ E.allocs = E0.allocs ∧ E.writes = E0.writes ∧ ∀ X' v, RelD X' E0.val v → RelD X' E.val v := by
  unfold effD at h
  split at h
  · rename_i E0 h0
    unfold fixE at h
    split at h
    · simp only [Option.some.injEq] at h
      subst h
      exact ⟨E0, h0, hps, rfl, rfl, fun _ _ h => h⟩
    · split at h
      · rename_i c _ _ b hv
        simp only [Option.some.injEq] at h
        subst h
        have hb : b = c := hps _ List.mem_cons_self
        refine ⟨E0, h0, fun p hp => hps p (List.mem_cons_of_mem _ hp), rfl, rfl, fun X' v hr => ?_⟩
        rw [hv, hb] at hr
        exact hr
      · cases h
  · cases h

theorem stepD_wp (M : Mem b X) {ops : Array Oper} {d : Dec} {s s' : St} {ps : List Prop} {a : Act} (hT : RelDs X s.tmps a.tmps.toList) (hH : X.H = s.heap) (hn : b.n ≤ d.nid) (h : stepD P ops d s = some (s', ps)) (hps : ∀ p ∈ ps, p)
    {i : Nat} (hi : ops[i]? = some d.o) {K : Act → World → Prop} {Q : Exit → Act → World → Prop}
    (hK : ∀ X' a', Mem b X' → RelDs X' s'.tmps a'.tmps.toList → X'.H = s'.heap → a'.defers = a.defers → Le X X' → K a' X'.w) : wpOp P ops Q i K a X.w := by
  unfold wpOp
  simp only [hi]
  unfold stepD at h
  split at h
  · rename_i hw
    rw [wantedD_rel hT hw]
    simp only [if_true]
    split at h
    · rename_i E hE
      split at h
      · rename_i hg
        simp only [Bool.and_eq_true, decide_eq_true_eq] at hg
        simp only [Option.some.injEq, Prod.mk.injEq] at h
        obtain ⟨rfl, rfl⟩ := h
        obtain ⟨E0, hE0, f1, f2, f3, f4⟩ := effD_some hE hps
        rw [f2, f3] at hK
        rw [f2] at hg
        refine .inl (op_wp M (evalD_rel hT) (fun id r hr => by rw [hH]; exact rdOf_some hr) hE0 f1 (freeB_free hH hg.1.2) hn K Q ?_)
        intro X' v M' hX' L' hv
        exact hK X' _ M' (putD_rel (L'.ds hT) _ (f4 X' v hv)) (by rw [hX', hH]) (put_defers _ _ _) L'
      · cases h
    · cases h
  · rename_i hw
    rw [wantedD_rel hT hw]
    simp only [Option.some.injEq, Prod.mk.injEq] at h
    obtain ⟨rfl, rfl⟩ := h
    simp only [Bool.false_eq_true, if_false]
    exact hK X _ M (putD_rel hT _ (by simp only [RelD])) hH (put_defers _ _ _) (Le.refl X)
  · cases h

/-- Operations one after another. -/
theorem runD_wp {ops : Array Oper} {Q : Exit → Act → World → Prop} : ∀ (ds : List Dec) (is : List Nat) {X : Ctx} {s s' : St} {ps : List Prop} {a : Act}, Mem b X → RelDs X s.tmps a.tmps.toList → X.H = s.heap → (∀ d ∈ ds, b.n ≤ d.nid) →
    runD P ops ds s = some (s', ps) → (∀ p ∈ ps, p) → is.map (fun i => ops[i]?) = ds.map (fun d => some d.o) →
    (∀ X' a', Mem b X' → RelDs X' s'.tmps a'.tmps.toList → X'.H = s'.heap → a'.defers = a.defers → Le X X' → Q .normal a' X'.w) → wpOps P ops Q is a X.w
  | [], is, X, s, s', ps, a, M, hT, hH, _, h, _, hi, hQ => by
    simp only [List.map_nil, List.map_eq_nil_iff] at hi
    subst hi
    simp only [runD, Option.some.injEq, Prod.mk.injEq] at h
    obtain ⟨rfl, rfl⟩ := h
    exact hQ X a M hT hH rfl (Le.refl X)
  | d :: ds, is, X, s, s', ps, a, M, hT, hH, hn, h, hps, hi, hQ => by
    cases is with
    | nil => simp at hi
    | cons i is =>
    simp only [List.map_cons, List.cons.injEq] at hi
    simp only [runD] at h
    split at h
    · rename_i s1 p1 hs
      split at h
      · rename_i s2 p2 hr
        simp only [Option.some.injEq, Prod.mk.injEq] at h
        obtain ⟨rfl, rfl⟩ := h
        rw [wpOps_cons]
        refine stepD_wp M hT hH (hn d List.mem_cons_self) hs (fun p hp => hps p (List.mem_append_left _ hp)) hi.1 ?_
        intro X' a' M' hT' hH' hd' L'
        refine runD_wp ds is M' hT' hH' (fun d hd => hn d (List.mem_cons_of_mem _ hd)) hr (fun p hp => hps p (List.mem_append_right _ hp)) hi.2 ?_
        intro X'' a'' M'' hT'' hH'' hd'' L''
        exact hQ X'' a'' M'' hT'' hH'' (hd''.trans hd') (L'.trans L'')
      · cases h
    · cases h

end
end Go.Proofs.YtnakmganodkliaaAm
