/- From a law's contract to its statement's step. -/
import Derived.Test.YtnakmganodkliaaAmQ
import Derived.ReadAgain
set_option linter.unusedVariables false
set_option linter.unusedSimpArgs false
namespace Go.Proofs.YtnakmganodkliaaAm
open Go Go.ChangeShapes Go.RowKit Go.ChangeAt

/-- Elements, one of each shape. -/
def Vals : List Ty → Type
  | [] => Unit
  | t :: ts => t.El × Vals ts

def wfs : (tys : List Ty) → Vals tys → Prop
  | [], _ => True
  | t :: ts, x => wfE t x.1 ∧ wfs ts x.2

def tysR (P : Program) (n : Nat) : List TypeId → Option (List Ty)
  | [] => some []
  | t :: ts => match tyR P n t, tysR P n ts with
    | some a, some b => some (a :: b)
    | _, _ => none

def argsD (P : Program) : List TypeId → (tys : List Ty) → Vals tys → Option (List D)
  | [], [], _ => some []
  | t :: ts, ty :: tys, x => match valD P t (ty.cells x.1), argsD P ts tys x.2 with
    | some d, some ds => some (d :: ds)
    | _, _ => none
  | _, _, _ => none

section
variable {H : Type} {enc : TypeId × Value → H} {P : Program} {w : World} {sp : Nat → Bool} {held : Bool}

theorem tyR_agg {n : Nat} {t : TypeId} {ty : Ty} (h : tyR P n t = some ty) (ha : aggB P t = false) {r : Reach} {base : Nat} {v : Value} (hv : Value.okWide P w r base t v) : v.cells = #[v] := by
  cases n with
  | zero => simp [tyR] at h
  | succ n =>
    simp only [tyR] at h
    unfold Value.okWide at hv
    unfold aggB at ha
    split at h
    · rename_i k hu
      rw [hu] at hv
      simp only at hv
      cases v <;> first | rfl | (simp [Cell.okWide, Cell.ok, hu] at hv)
    · rename_i hu
      rw [hu] at hv
      simp only at hv
      cases v <;> first | rfl | (simp [Cell.okWide, Cell.ok, hu] at hv)
    · rename_i hu
      rw [hu] at hv
      simp only at hv
      cases v <;> first | rfl | (simp [Cell.okWide, Cell.ok, hu] at hv)
    · rename_i e hu
      rw [hu] at hv
      simp only at hv
      cases v <;> first | rfl | (simp [Cell.okWide, Cell.ok, hu] at hv)
    · rename_i fs hu
      rw [hu] at ha
      cases ha
    · rename_i len e hu
      rw [hu] at ha
      cases ha
    · cases h

theorem okWide_agg {t : TypeId} (ha : aggB P t = true) {r : Reach} {base : Nat} {v : Value} (hv : Value.okWide P w r base t v) : ∃ cs, v = .agg cs := by
  unfold Value.okWide at hv
  unfold aggB at ha
  split at ha
  · rename_i fs hu
    rw [hu] at hv
    obtain ⟨cs, e, _⟩ := hv
    exact ⟨cs, e⟩
  · rename_i len e hu
    rw [hu] at hv
    obtain ⟨cs, e, _⟩ := hv
    exact ⟨cs, e⟩
  · cases ha

theorem args_rel {r : Reach} {base : Nat} {X : Ctx} (hS : X.S = oldS w) (hw : X.w = w) : ∀ (ts : List TypeId) (tys : List Ty) {vs : List Value} {ds : List (DataW H)} {p : List MemPlace}, tysR P 12 ts = some tys → DataW.TrodAll enc P w 0 sp held ts vs ds p →
    (∀ (j : Nat) t v, ts[j]? = some t → vs[j]? = some v → Value.okWide P w r base t v) → ∃ xs : Vals tys, wfs tys xs ∧ ∀ ds', argsD P ts tys xs = some ds' → RelDs X ds' vs
  | [], tys, vs, ds, p, ht, hA, _ => by
    simp only [tysR, Option.some.injEq] at ht
    subst ht
    obtain ⟨rfl, _, _⟩ := ChangeShapes.trodAll_nil hA
    refine ⟨(), trivial, fun ds' h => ?_⟩
    simp only [argsD, Option.some.injEq] at h
    subst h
    simp only [RelDs]
  | t :: ts, tys, vs, ds, p, ht, hA, hok => by
    simp only [tysR] at ht
    split at ht
    · rename_i a b ha hb
      simp only [Option.some.injEq] at ht
      subst ht
      obtain ⟨v, vs', d, ds', p1, q1, rfl, rfl, rfl, h0, r0⟩ := ChangeShapes.trodAll_cons hA
      obtain ⟨xs, g1, g2⟩ := args_rel (X := X) hS hw ts b hb r0 (fun j t' v' h1 h2 => hok (j + 1) t' v' (by simpa using h1) (by simpa using h2))
      obtain ⟨fuel, hx⟩ := h0
      obtain ⟨x, k1, k2⟩ := trod_rel (w := w) 12 t ha ⟨fuel, _, hx⟩
      refine ⟨(x, xs), ⟨k2, g1⟩, fun ds'' h => ?_⟩
      simp only [argsD] at h
      split at h
      · rename_i d1 ds1 h1 h2
        simp only [Option.some.injEq] at h
        subst h
        simp only [RelDs]
        refine ⟨v, vs', rfl, ?_, g2 ds1 h2⟩
        rw [← hS, ← hw] at k1
        have hR := relE_cells X a x _ k1
        have hov := hok 0 t v rfl rfl
        unfold valD at h1
        split at h1
        · rename_i hagg
          simp only [Option.some.injEq] at h1
          subst h1
          obtain ⟨cs, rfl⟩ := okWide_agg hagg hov
          simp only [RelD]
          exact ⟨cs.toList, by simp, by simpa [Value.cells] using hR⟩
        · rename_i hagg
          have hc := tyR_agg ha (by simpa using hagg) hov
          split at h1
          · rename_i d2 hd
            simp only [Option.some.injEq] at h1
            subst h1
            rw [hd, hc] at hR
            obtain ⟨u, hu, hu2⟩ := relDs_one.1 hR
            simp only [List.cons.injEq, and_true] at hu
            rw [hu]
            exact hu2
          · cases h1
      · cases h
    · cases ht

theorem trodAll_len : ∀ {ts : List TypeId} {vs : List Value} {ds : List (DataW H)} {ps : List MemPlace}, DataW.TrodAll enc P w 0 sp held ts vs ds ps → ds.length = ts.length
  | [], [], [], _, _ => rfl
  | _ :: _, _ :: _, _ :: _, _, ⟨_, _, _, h2, _⟩ => by simp [trodAll_len h2]

theorem trodAll_carry {w' : World} : ∀ {ts : List TypeId} {vs : List Value} {ds : List (DataW H)} {ps : List MemPlace}, DataW.TrodAll enc P w 0 sp held ts vs ds ps → (∀ p ∈ ps, w.sameAt w' p) → DataW.TrodAll enc P w' 0 sp held ts vs ds ps
  | [], [], [], _, h, _ => h
  | _ :: _, _ :: _, _ :: _, _, ⟨p, q, ⟨n, h1⟩, h2, e⟩, hs =>
    ⟨p, q, ⟨n, DataW.trod_carry n _ _ _ h1 (fun x hx => hs x (by rw [e]; exact List.mem_append_left _ hx))⟩, trodAll_carry h2 (fun x hx => hs x (by rw [e]; exact List.mem_append_right _ hx)), e⟩

theorem sameAt_old {w' : World} (hk : ∀ k, k < w.heap.size → w'.heap[k]? = w.heap[k]?) {p : MemPlace} (hp : p.block < w.heap.size) : w.sameAt w' p := by
  cases p with
  | cell b off => exact cell_same (hk b hp)
  | map b => exact hk b hp

theorem keptBut_old {w' : World} (hos : w'.os = w.os) (hout : w'.output = w.output) (hk : ∀ k, k < w.heap.size → w'.heap[k]? = w.heap[k]?) (may : MemPlace → Prop) : w.keptBut w' may := by
  refine ⟨hos, hout, fun i hi => ?_⟩
  rw [hk i hi]
  cases w.heap[i]? with
  | none => rfl
  | some o => cases o <;> first | exact ⟨rfl, rfl, rfl, fun _ _ => rfl⟩ | exact .inr ⟨rfl, rfl⟩ | rfl

/-- **A law's step**: its contract, for all that its arguments may read as, is what its row asks. -/
theorem law_step {f : FuncId} {fn : Func} {tys : List Ty} {tb : TypeId} {spec : ChangeSpec} (hK : Kids P (· < P.types.size)) (hz : ∀ t e, t < P.types.size → P.underlying t = some (.slice e) → 0 < P.cellsOf e)
    (hts : ∀ t ∈ fn.params.toList, t < P.types.size) (hty : tysR P 12 fn.params.toList = some tys) (hres : fn.resultTypes = #[tb]) (hb : P.underlying tb = some .bool)
    (hcon : ∀ xs : Vals tys, wfs tys xs → ∃ ds, argsD P fn.params.toList tys xs = some ds ∧ Con P f [] ds (.v (.bool true)) [] [])
    {W : World} {base : Nat} {args : Array Value} {ds gs : List (DataW H)} {before : List MemPlace} (hval : ∀ (j : Nat) t v, fn.params[j]? = some t → args[j]? = some v → Value.okWide P W .any base t v)
    (hvars : spec.vars = []) (hspec : ∀ l : List (DataW H), l.length = fn.params.size → spec.fn H l = { results := [.lit (.bool true)], args := l })
    (hW : DataW.Whole enc P fn.params.toList spec.vars false W args.toList ds gs before) :
    Calls P f args W fun e W' => ∃ v, e = .returned v ∧ spec.post enc P fn false true false false W args v W' := by
  have hW' := hW
  obtain ⟨p, q, hA, hV, hpq, hfz, hnd⟩ := hW
  rw [hvars] at hV
  obtain ⟨hgs, hq⟩ : gs = [] ∧ q = [] := by
    cases gs with
    | nil => exact ⟨rfl, hV⟩
    | cons g gs => exact hV.elim
  subst hgs
  subst hq
  rw [List.append_nil] at hpq
  subst hpq
  obtain ⟨xs, hwf, hrel⟩ := args_rel (X := ⟨fun _ => none, [], oldS W, W⟩) rfl rfl fn.params.toList tys hty hA (fun j t v h1 h2 => hval j t v (by rwa [Array.getElem?_toList] at h1) (by rwa [Array.getElem?_toList] at h2))
  obtain ⟨dd, hdd, hcon'⟩ := hcon xs hwf
  have M : Mem ⟨W, fun _ => none, oldS W, 0⟩ ⟨fun _ => none, [], oldS W, W⟩ := by
    refine ⟨rfl, rfl, rfl, Nat.le_refl _, ?_, ?_, ?_, fun _ h => h, fun _ _ _ => rfl, ?_, fun _ _ _ => rfl, fun _ h => h, fun _ h => .inl h⟩
    · intro i j p q hi
      exact absurd rfl hi
    · intro id r h
      cases h
    · intro id p h
      exact absurd rfl h
    · intro id p h
      exact absurd rfl h
  have hcalls := hcon'.run W (fun _ => none) (oldS W) args.toList M (hrel dd hdd)
  rw [Array.toArray_toList] at hcalls
  refine hcalls.mono ?_
  rintro e W' ⟨v, ρ', S', rfl, M', hv⟩
  have hv' : v = .bool true := by simpa only [RelD] using hv
  subst hv'
  have hold : ∀ k, k < W.heap.size → W'.heap[k]? = W.heap[k]? := fun k hk => M'.keep k hk (fun ⟨id, l, h, _⟩ => by simp at h)
  have hlen := trodAll_len hA
  have hs := hspec (ds ++ []) (by simpa using hlen)
  refine ⟨_, rfl, ds, [], before, [], before, [], hW', ?_, ?_, ?_, keptBut_old M'.os M'.output hold _, fun h => by cases h⟩
  · rw [hs, hres]
    exact ChangeShapes.trodAll_mk1 (RowKit.shut_bool hb true)
  · rw [hs, List.append_nil]
    exact trodAll_carry (DataW.TrodAll.respare hK hz hts hA (fun x hx => by simpa using hW'.lt x hx)) (fun x hx => sameAt_old hold (hW'.lt x hx))
  · rw [hvars]
    rw [hs]
    exact rfl

end
end Go.Proofs.YtnakmganodkliaaAm
