/- From a place in a function's code to its end: the rules; a path through the code, computed; contracts. -/
import Derived.Test.YtnakmganodkliaaAmO
import Derived.Scope
set_option linter.unusedVariables false
set_option linter.unusedSimpArgs false
namespace Go.Proofs.YtnakmganodkliaaAm
open Go

/-- From here, with what the state says, the function comes to its end, in a state that Φ takes. -/
def Gets (P : Program) (n : Nat) (k : List Item) (s : St) (Φ : St → Prop) : Prop :=
  ∀ (b : Beg) (X : Ctx) (a : Act) (fr : Frame) (cs : List Frame), b.n = n → Rel b X s a →
    ∃ X' s' a' todo, Steps P (lone (fr.at a k) cs X.w) (lone { fr.at a' todo with mode := .returning } cs X'.w) ∧ Rel b X' s' a' ∧ Φ s'

section
variable {P : Program} {n : Nat} {s s' : St} {Φ : St → Prop} {k : List Item}

theorem Gets.step {k' : List Item} (h : ∀ (fr : Frame) (a : Act) (cs : List Frame) (w : World), step P (lone (fr.at a k) cs w) = .next (lone (fr.at a k') cs w)) (hg : Gets P n k' s Φ) : Gets P n k s Φ := by
  intro b X a fr cs hb R
  obtain ⟨X', s', a', todo, h1, h2⟩ := hg b X a fr cs hb R
  exact ⟨X', s', a', todo, .head (h fr a cs X.w) h1, h2⟩

theorem Gets.nil (h : Φ s) : Gets P n [] s Φ := fun b X a fr cs hb R => ⟨X, s, a, _, .one step_end, R, h⟩

theorem Gets.ret (h : Φ s) : Gets P n (.code .ret :: k) s Φ := fun b X a fr cs hb R => ⟨X, s, a, _, .one step_ret, R, h⟩

theorem Gets.region {sp : Sp} {asm : List (Nat × Bool)} {ops : Array Oper} {draw : Bool} {ps : List Prop} {id : Nat} (hm : P.follows .mixedOrders = true) (h : runR P sp asm ops draw s = some (s', ps)) (hps : ∀ p ∈ ps, p) (hg : Gets P n k s' Φ) : Gets P n (.code (.region id ops draw) :: k) s Φ := by
  intro b X a fr cs hb R
  obtain ⟨e, a1, w1, ⟨rfl, X1, rfl, R1⟩, harr⟩ := run_region (Q := fun e a' w' => e = .normal ∧ ∃ X', X'.w = w' ∧ Rel b X' s' a') R hm h hps (fun X' a' R' => ⟨rfl, X', rfl, R'⟩) id fr k cs
  obtain ⟨X', s'', a', todo, h1, h2⟩ := hg b X1 a1 fr cs hb R1
  exact ⟨X', s'', a', todo, Steps.trans harr h1, h2⟩

theorem Gets.cond {c : Operand} {x y : Code} {t : Bool} (hc : evalD s.tmps c = .v (.bool t)) (hg : Gets P n (.code (if t then x else y) :: k) s Φ) : Gets P n (.code (.cond c x y) :: k) s Φ := by
  intro b X a fr cs hb R
  obtain ⟨X', s', a', todo, h1, h2⟩ := hg b X a fr cs hb R
  have he := evalD_rel R.tmps c
  rw [hc] at he
  simp only [RelD] at he
  exact ⟨X', s', a', todo, .head (step_cond he) h1, h2⟩

theorem Gets.norm {keep : List Nat} (h : normS n keep s = some s') (hg : Gets P n k s' Φ) : Gets P n k s Φ := by
  intro b X a fr cs hb R
  obtain ⟨X1, hw, R1⟩ := norm_rel R hb h
  obtain ⟨X', s'', a', todo, h1, h2⟩ := hg b X1 a fr cs hb R1
  rw [hw] at h1
  exact ⟨X', s'', a', todo, h1, h2⟩

theorem Gets.mono {Ψ : St → Prop} (h : ∀ s, Φ s → Ψ s) (hg : Gets P n k s Φ) : Gets P n k s Ψ := fun b X a fr cs hb R =>
  let ⟨X', s', a', todo, h1, h2, h3⟩ := hg b X a fr cs hb R
  ⟨X', s', a', todo, h1, h2, h _ h3⟩

end

/-- At a fork: which way; at a loop's head: go on; at a region with conditions of its own: what its operations, by number, answer. -/
inductive Ch where
  | t
  | f
  | go
  | g (l : List (Nat × Bool))

/-- What is assumed in a region. -/
def takeG (ops : Array Oper) (ch : List Ch) : Option (List (Nat × Bool) × List Ch) :=
  if ops.any (·.guard.isSome) then match ch with
    | .g l :: ch => some (l, ch)
    | _ => none
  else some ([], ch)

def takeC : List Ch → Option (Bool × List Ch)
  | .t :: ch => some (true, ch)
  | .f :: ch => some (false, ch)
  | _ => none

/-- A path. It stops at a loop's head, or at the end (then no items are left). -/
def runK (P : Program) (sp : Sp) : Nat → List Ch → List Item → St → Option (List Item × St × List Prop)
  | 0, _, _, _ => none
  | f + 1, ch, k, s =>
    match k with
    | [] => some ([], s, [])
    | .code c :: k => match c with
      | .skip => runK P sp f ch k s
      | .label _ => runK P sp f ch k s
      | .region _ ops draw => match takeG ops ch with
        | some (asm, ch) => match runR P sp asm ops draw s with
          | some (s', ps) => match runK P sp f ch k s' with
            | some (k', s'', qs) => some (k', s'', ps ++ qs)
            | none => none
          | none => none
        | none => none
      | .seq x y => runK P sp f ch (.code x :: .code y :: k) s
      | .cond c x y => match takeC ch with
        | some (t, ch) => match evalD s.tmps c with
          | .v (.bool t') => match runK P sp f ch (.code (if t then x else y) :: k) s with
            | some (k', s'', qs) => some (k', s'', (t' = t) :: qs)
            | none => none
          | _ => none
        | _ => none
      | .block id c => runK P sp f ch (.code c :: .inBlock id :: k) s
      | .loop c => match ch with
        | .go :: ch => runK P sp f ch (.code c :: .inLoop c :: k) s
        | _ => some (.code c :: .inLoop c :: k, s, [])
      | .exit id => match exitTo id k with
        | some k' => runK P sp f ch k' s
        | none => none
      | .goto l => match gotoIn l k with
        | some k' => runK P sp f ch k' s
        | none => none
      | .scope c => runK P sp f ch (.code c :: .inScope c :: k) s
      | .ret => some ([], s, [])
      | _ => none
    | .inBlock _ :: k => runK P sp f ch k s
    | .inScope _ :: k => runK P sp f ch k s
    | .inLoop c :: k => match ch with
      | .go :: ch => runK P sp f ch (.code c :: .inLoop c :: k) s
      | _ => some (.code c :: .inLoop c :: k, s, [])
    | _ => none

/-- What is left to show when a path has stopped. -/
def After (P : Program) (n : Nat) (k : List Item) (s : St) (Φ : St → Prop) : Prop := match k with
  | [] => Φ s
  | k => Gets P n k s Φ

theorem runK_sound {P : Program} {sp : Sp} {n : Nat} {Φ : St → Prop} (hm : P.follows .mixedOrders = true) : ∀ (f : Nat) (ch : List Ch) (k : List Item) (s : St) {k' : List Item} {s' : St} {ps : List Prop},
    runK P sp f ch k s = some (k', s', ps) → (∀ p ∈ ps, p) → After P n k' s' Φ → Gets P n k s Φ := by
  intro f
  induction f with
  | zero => intro ch k s k' s' ps h; simp [runK] at h
  | succ f ih =>
    intro ch k s k' s' ps h hps hA
    have stop : ∀ {c : Code} {k0 : List Item}, some (Item.code c :: .inLoop c :: k0, s, ([] : List Prop)) = some (k', s', ps) → Gets P n (.code c :: .inLoop c :: k0) s Φ := by
      intro c k0 h
      simp only [Option.some.injEq, Prod.mk.injEq] at h
      obtain ⟨rfl, rfl, _⟩ := h
      exact hA
    unfold runK at h
    split at h
    · simp only [Option.some.injEq, Prod.mk.injEq] at h
      obtain ⟨rfl, rfl, _⟩ := h
      exact .nil hA
    · split at h
      · exact .step (fun _ _ _ _ => step_skip) (ih _ _ _ h hps hA)
      · exact .step (fun _ _ _ _ => step_label) (ih _ _ _ h hps hA)
      · split at h
        · split at h
          · rename_i s1 p1 hr
            split at h
            · rename_i k2 s2 q2 hk
              simp only [Option.some.injEq, Prod.mk.injEq] at h
              obtain ⟨rfl, rfl, rfl⟩ := h
              exact .region hm hr (fun p hp => hps p (List.mem_append_left _ hp)) (ih _ _ _ hk (fun p hp => hps p (List.mem_append_right _ hp)) hA)
            · cases h
          · cases h
        · cases h
      · exact .step (fun _ _ _ _ => step_seq) (ih _ _ _ h hps hA)
      · split at h
        · split at h
          · rename_i t' he
            split at h
            · rename_i k2 s2 q2 hk
              simp only [Option.some.injEq, Prod.mk.injEq] at h
              obtain ⟨rfl, rfl, rfl⟩ := h
              have ht := hps _ List.mem_cons_self
              subst ht
              exact .cond he (ih _ _ _ hk (fun p hp => hps p (List.mem_cons_of_mem _ hp)) hA)
            · cases h
          · cases h
        · cases h
      · exact .step (fun _ _ _ _ => step_block) (ih _ _ _ h hps hA)
      · split at h
        · exact .step (fun _ _ _ _ => step_loop) (ih _ _ _ h hps hA)
        · exact .step (fun _ _ _ _ => step_loop) (stop h)
      · split at h
        · rename_i k2 he
          exact .step (fun _ _ _ _ => step_exit he) (ih _ _ _ h hps hA)
        · cases h
      · split at h
        · rename_i k2 he
          exact .step (fun _ _ _ _ => step_goto he) (ih _ _ _ h hps hA)
        · cases h
      · exact .step (fun _ _ _ _ => step_scope) (ih _ _ _ h hps hA)
      · simp only [Option.some.injEq, Prod.mk.injEq] at h
        obtain ⟨rfl, rfl, _⟩ := h
        exact .ret hA
      · cases h
    · exact .step (fun _ _ _ _ => step_inBlock) (ih _ _ _ h hps hA)
    · exact .step (fun _ _ _ _ => step_inScope) (ih _ _ _ h hps hA)
    · split at h
      · exact .step (fun _ _ _ _ => step_inLoop) (ih _ _ _ h hps hA)
      · exact .step (fun _ _ _ _ => step_inLoop) (stop h)
    · cases h

/-- All of them hold. -/
def All : List Prop → Prop
  | [] => True
  | p :: ps => p ∧ All ps

theorem All.mem : ∀ {ps : List Prop}, All ps → ∀ p ∈ ps, p
  | [], _, p, hp => by simp at hp
  | q :: qs, h, p, hp => by
    rcases List.mem_cons.1 hp with h1 | h1
    · rw [h1]
      exact h.1
    · exact All.mem h.2 p h1

/-- A path to a loop's head, made small. -/
def pathTo (P : Program) (sp : Sp) (f : Nat) (ch : List Ch) (n : Nat) (keep : List Nat) (k : List Item) (s : St) : Option (List Item × St × List Prop) :=
  match runK P sp f ch k s with
  | some (k', s', ps) => match k' with
    | [] => none
    | i :: k' => match normS n keep s' with
      | some s'' => some (i :: k', s'', ps)
      | none => none
  | none => none

/-- A path to the function's end. -/
def pathEnd (P : Program) (sp : Sp) (f : Nat) (ch : List Ch) (n : Nat) (rs : List ResultVar) (how : List (Option Ty)) (k : List Item) (s : St) : Option ((D × List (Option Row) × List Row) × List Prop) :=
  match runK P sp f ch k s with
  | some (k', s', ps) => match k' with
    | [] => match finS P rs n how s' with
      | some r => some (r, ps)
      | none => none
    | _ => none
  | none => none

/-- What a function's end must be. -/
def Ends (P : Program) (n : Nat) (rs : List ResultVar) (how : List (Option Ty)) (r : D × List (Option Row) × List Row) (s : St) : Prop := finS P rs n how s = some r

theorem Gets.path {P : Program} {sp : Sp} {f : Nat} {ch : List Ch} {n : Nat} {keep : List Nat} {k k' : List Item} {s s' : St} {ps : List Prop} {Φ : St → Prop} (hm : P.follows .mixedOrders = true)
    (h : pathTo P sp f ch n keep k s = some (k', s', ps)) (hps : All ps) (hg : Gets P n k' s' Φ) : Gets P n k s Φ := by
  unfold pathTo at h
  split at h
  · rename_i k1 s1 p1 hr
    split at h
    · cases h
    · rename_i i k2
      split at h
      · rename_i s2 hn
        simp only [Option.some.injEq, Prod.mk.injEq] at h
        obtain ⟨rfl, rfl, rfl⟩ := h
        exact runK_sound hm f ch k s hr hps.mem (Gets.norm hn hg)
      · cases h
  · cases h

theorem Gets.last {P : Program} {sp : Sp} {f : Nat} {ch : List Ch} {n : Nat} {rs : List ResultVar} {how : List (Option Ty)} {k : List Item} {s : St} {r : D × List (Option Row) × List Row} {ps : List Prop} (hm : P.follows .mixedOrders = true)
    (h : pathEnd P sp f ch n rs how k s = some (r, ps)) (hps : All ps) : Gets P n k s (Ends P n rs how r) := by
  unfold pathEnd at h
  split at h
  · rename_i k1 s1 p1 hr
    split at h
    · split at h
      · rename_i r' hf
        simp only [Option.some.injEq, Prod.mk.injEq] at h
        obtain ⟨rfl, rfl⟩ := h
        exact runK_sound hm f ch k s hr hps.mem hf
      · cases h
    · cases h
  · cases h

/-- The state at a function's beginning. -/
def st0 (ntmps : Nat) (pre : List Row) (args : List D) : St := ⟨args ++ List.replicate (ntmps - args.length) (.v undef), pre.map .live⟩

theorem relDs_undef (X : Ctx) : ∀ m, RelDs X (List.replicate m (.v undef)) (List.replicate m undef)
  | 0 => by simp only [List.replicate_zero, RelDs]
  | m + 1 => by simp only [List.replicate_succ, RelDs]; exact ⟨undef, _, rfl, by simp only [RelD], relDs_undef X m⟩

/-- **A function's contract, from its body.** -/
theorem con_of {P : Program} {f : FuncId} {fn : Func} {c : Code} {pre : List Row} {args : List D} {val : D} {post : List (Option Row)} {allocs : List Row} {how : List (Option Ty)}
    (hf : P.funcs[f]? = some fn) (hname : (fn.name == "runtime.NumGoroutine") = false) (hb : fn.body = some c)
    (hg : Gets P pre.length [.code c] (st0 fn.ntmps pre args) (Ends P pre.length fn.results.toList how (val, post, allocs))) : Con P f pre args val post allocs := by
  refine ⟨⟨fn, hf, hname, by rw [hb]; rfl⟩, ?_⟩
  intro w ρ S vs M hargs cs
  have hlen := relDs_length hargs
  have R : Rel ⟨w, ρ, S, pre.length⟩ ⟨ρ, pre.map .live, S, w⟩ (st0 fn.ntmps pre args) { tmps := vs.toArray ++ Array.replicate (fn.ntmps - vs.toArray.size) undef, defers := [] } := by
    refine ⟨M, ?_, rfl, by simp [st0], rfl⟩
    simp only [st0, Array.toList_append, Array.toList_replicate, List.size_toArray, hlen]
    rw [relDs_append]
    exact ⟨_, _, rfl, hargs, relDs_undef _ _⟩
  let b : Frame := { (default : Frame) with fn := f, kind := .normal }
  have henter : Frame.enter P f vs.toArray .normal = b.at { tmps := vs.toArray ++ Array.replicate (fn.ntmps - vs.toArray.size) undef, defers := [] } [.code c] := by
    simp [Frame.enter, Frame.at, hf, hb, b]
  obtain ⟨X', s', a', todo, h1, R', hfin⟩ := hg _ _ _ b cs rfl R
  rw [← henter] at h1
  obtain ⟨v, ρ', S', h2, h3, h4⟩ := fin_rel R' rfl hfin
  exact ⟨.returned v, X'.w, _, ⟨v, ρ', S', rfl, h3, h4⟩, h1, rfl, rfl, R'.defers, rfl, fn, hf, h2⟩

end Go.Proofs.YtnakmganodkliaaAm
