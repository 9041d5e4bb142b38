/- The logic: all ways through a function at once. -/
import Derived.Test.YtnakmganodkliaaDoorLc
/- All ways through a function's code at once: what is left to show, computed. -/
set_option linter.unusedVariables false
set_option linter.unusedSimpArgs false
namespace Go.Proofs.YtnakmganodkliaaDoorAm
open Go

/-- At a fork: known to be true, known to be false, both ways; at a loop's head: go on; a loop's head where the way stops, by its number; another place where it stops. -/
inductive Hint where
  | stop
  | t (h : Hint)
  | f (h : Hint)
  | fork (a b : Hint)
  | go (h : Hint)
  | hd (i : Nat)
  | cut (i : Nat)

def andL : List Prop → Prop → Prop
  | [], q => q
  | p :: ps, q => p ∧ andL ps q

theorem andL_iff : ∀ {ps : List Prop} {q : Prop}, andL ps q → (∀ p ∈ ps, p) ∧ q
  | [], q, h => ⟨by simp, h⟩
  | p :: ps, q, h => by
    obtain ⟨h1, h2⟩ := andL_iff h.2
    refine ⟨?_, h2⟩
    intro x hx
    rcases List.mem_cons.1 hx with hx | hx
    · rw [hx]; exact h.1
    · exact h1 x hx

/-- Nothing is computed here (the number tells where). -/
inductive Stuck : Nat → Prop

theorem Stuck.elim {n : Nat} {p : Prop} (h : Stuck n) : p := by cases h

def SameK (a b : List Item) : Prop := a = b
theorem SameK.same (a : List Item) : SameK a a := rfl
theorem sameK_iff (a : List Item) : SameK a a ↔ True := iff_of_true rfl trivial

def isG (ops : Array Oper) (i : Nat) : Bool := ops.toList.any fun o => match o.guard with
  | some (j, _) => j == i
  | none => false

def putB (s : St) (t : Nat) (b : Bool) : St := ⟨s.tmps.set t (.v (.bool b)), s.heap⟩

def vcD (P : Program) (ops : Array Oper) : Nat → List Dec → Hint → St → (Hint → St → Prop) → Prop
  | _, [], h, s, K => K h s
  | i, d :: ds, h, s, K => match stepD P ops d s with
    | none => Stuck i
    | some (s', ps) => andL ps (if isG ops i then match d.o.dst with
      | some t => match s'.tmps[t]? with
        | some (.v (.bool b)) => match h with
          | .t h => b = true ∧ vcD P ops (i + 1) ds h (putB s' t true) K
          | .f h => b = false ∧ vcD P ops (i + 1) ds h (putB s' t false) K
          | .fork h1 h2 => (b = true → vcD P ops (i + 1) ds h1 (putB s' t true) K) ∧ (b = false → vcD P ops (i + 1) ds h2 (putB s' t false) K)
          | _ => Stuck i
        | _ => vcD P ops (i + 1) ds h s' K
      | none => vcD P ops (i + 1) ds h s' K
    else vcD P ops (i + 1) ds h s' K)

def setFx : List Dec → List (Option Bool) → List Dec
  | d :: ds, f :: fs => { d with fix := f } :: setFx ds fs
  | ds, _ => ds

theorem setFx_length : ∀ (ds : List Dec) (fs : List (Option Bool)), (setFx ds fs).length = ds.length
  | [], _ => by simp [setFx]
  | _ :: _, [] => by simp [setFx]
  | d :: ds, f :: fs => by simp [setFx, setFx_length ds fs]

theorem stepD_fix {P : Program} {ops : Array Oper} {d : Dec} {s s' : St} {ps : List Prop} (hd : d.fix = none) (h : stepD P ops d s = some (s', ps)) {t : Nat} (ht : d.o.dst = some t) {b : Bool} (hb : s'.tmps[t]? = some (.v (.bool b))) (c : Bool) :
    stepD P ops { d with fix := some c } s = some (putB s' t c, (b = c) :: ps) := by
  rcases stepD_cases h with ⟨h1, rfl, rfl⟩ | ⟨h1, E, hE, hk, rfl, rfl⟩
  · rw [ht] at hb
    simp only [putD] at hb
    rw [List.getElem?_set] at hb
    simp only [if_true] at hb
    split at hb
    · simp only [undef, Option.some.injEq, D.v.injEq] at hb
      cases hb
    · cases hb
  · have hv : E.val = .v (.bool b) := by
      rw [ht] at hb
      simp only [putD] at hb
      rw [List.getElem?_set] at hb
      simp only [if_true] at hb
      split at hb
      · simpa using hb
      · cases hb
    have hE' : effD P (rdOf s.heap d.forb) { d with fix := some c } (evalD s.tmps) = some { E with val := .v (.bool c), obl := (b = c) :: E.obl } := by
      unfold effD at hE ⊢
      rw [hd] at hE
      show (match opEff P (rdOf s.heap d.forb) d.nid d.sp d.o (evalD s.tmps) with | some E => fixE (some c) E | none => none) = _
      split at hE
      · rename_i E0 h0
        simp only [fixE, Option.some.injEq] at hE
        subst hE
        rw [h0]
        simp only [fixE, hv]
      · cases hE
    rw [stepD_yes (d := { d with fix := some c }) h1 hE' hk]
    simp only [putB, Option.some.injEq, Prod.mk.injEq, St.mk.injEq, and_true, ht, putD, List.set_set]

theorem fix_self {d : Dec} (hd : d.fix = none) : { d with fix := none } = d := by
  cases d
  simp only at hd
  rw [hd]

theorem vcD_sound {P : Program} {ops : Array Oper} {K : Hint → St → Prop} : ∀ (ds : List Dec) (i : Nat) (h : Hint) (s : St), (∀ d ∈ ds, d.fix = none) → vcD P ops i ds h s K →
    ∃ fx : List (Option Bool), fx.length = ds.length ∧ ∃ s' ps h', runD P ops (setFx ds fx) s = some (s', ps) ∧ (∀ p ∈ ps, p) ∧ K h' s'
  | [], i, h, s, _, hv => ⟨[], rfl, s, [], h, rfl, by simp, hv⟩
  | d :: ds, i, h, s, hn, hv => by
    have hd : d.fix = none := hn d List.mem_cons_self
    have hn' : ∀ d ∈ ds, d.fix = none := fun x hx => hn x (List.mem_cons_of_mem _ hx)
    unfold vcD at hv
    split at hv
    · exact hv.elim
    · rename_i s' ps hs
      obtain ⟨hps, hv⟩ := andL_iff hv
      have plain : ∀ {h' : Hint}, vcD P ops (i + 1) ds h' s' K → ∃ fx : List (Option Bool), fx.length = (d :: ds).length ∧ ∃ s' ps h', runD P ops (setFx (d :: ds) fx) s = some (s', ps) ∧ (∀ p ∈ ps, p) ∧ K h' s' := by
        intro h' hv
        obtain ⟨fx, hl, s2, qs, h2, hr, hq, hK⟩ := vcD_sound ds (i + 1) h' s' hn' hv
        refine ⟨none :: fx, by simp [hl], s2, ps ++ qs, h2, ?_, ?_, hK⟩
        · simp only [setFx, runD, fix_self hd, hs, hr]
        · intro p hp
          rcases List.mem_append.1 hp with hp | hp
          · exact hps p hp
          · exact hq p hp
      have fixed : ∀ {h' : Hint} {t : Nat} {b : Bool} (c : Bool), d.o.dst = some t → s'.tmps[t]? = some (.v (.bool b)) → b = c → vcD P ops (i + 1) ds h' (putB s' t c) K →
          ∃ fx : List (Option Bool), fx.length = (d :: ds).length ∧ ∃ s' ps h', runD P ops (setFx (d :: ds) fx) s = some (s', ps) ∧ (∀ p ∈ ps, p) ∧ K h' s' := by
        intro h' t b c ht hb hbc hv
        obtain ⟨fx, hl, s2, qs, h2, hr, hq, hK⟩ := vcD_sound ds (i + 1) h' (putB s' t c) hn' hv
        refine ⟨some c :: fx, by simp [hl], s2, ((b = c) :: ps) ++ qs, h2, ?_, ?_, hK⟩
        · simp only [setFx, runD, stepD_fix hd hs ht hb c, hr]
        · intro p hp
          rcases List.mem_append.1 hp with hp | hp
          · rcases List.mem_cons.1 hp with hp | hp
            · rw [hp]; exact hbc
            · exact hps p hp
          · exact hq p hp
      split at hv
      · split at hv
        · rename_i t ht
          split at hv
          · rename_i b hb
            split at hv
            · exact fixed true ht hb hv.1 hv.2
            · exact fixed false ht hb hv.1 hv.2
            · cases b with
              | true => exact fixed true ht hb rfl (hv.1 rfl)
              | false => exact fixed false ht hb rfl (hv.2 rfl)
            · exact hv.elim
          · exact plain hv
        · exact plain hv
      · exact plain hv

/-- The operations with what is assumed of each. -/
def asmOf : Nat → List (Option Bool) → List (Nat × Bool)
  | _, [] => []
  | i, none :: l => asmOf (i + 1) l
  | i, some b :: l => (i, b) :: asmOf (i + 1) l

theorem asmOf_low : ∀ (l : List (Option Bool)) (i k : Nat), k < i → (asmOf i l).lookup k = none
  | [], _, _, _ => rfl
  | none :: l, i, k, h => by simp only [asmOf]; exact asmOf_low l _ _ (by omega)
  | some b :: l, i, k, h => by
    simp only [asmOf, List.lookup]
    rw [show (k == i) = false by simp; omega]
    exact asmOf_low l _ _ (by omega)

theorem asmOf_get : ∀ (l : List (Option Bool)) (i k : Nat) {f : Option Bool}, l[k]? = some f → (asmOf i l).lookup (i + k) = f
  | [], _, _, _, h => by simp at h
  | none :: l, i, 0, f, h => by
    simp only [List.getElem?_cons_zero, Option.some.injEq] at h
    subst h
    simp only [asmOf]
    exact asmOf_low l _ _ (by omega)
  | some b :: l, i, 0, f, h => by
    simp only [List.getElem?_cons_zero, Option.some.injEq] at h
    subst h
    simp [asmOf, List.lookup]
  | none :: l, i, k + 1, f, h => by
    simp only [List.getElem?_cons_succ] at h
    simp only [asmOf]
    rw [show i + (k + 1) = i + 1 + k by omega]
    exact asmOf_get l _ _ h
  | some b :: l, i, k + 1, f, h => by
    simp only [List.getElem?_cons_succ] at h
    simp only [asmOf, List.lookup]
    rw [show (i + (k + 1) == i) = false by simp]
    rw [show i + (k + 1) = i + 1 + k by omega]
    exact asmOf_get l _ _ h

theorem decs_fx (sp : Sp) (asm : List (Nat × Bool)) : ∀ (os : List Oper) (fx : List (Option Bool)) (i nid : Nat), fx.length = os.length → (∀ k f, fx[k]? = some f → asm.lookup (i + k) = f) → decs sp asm i nid os = setFx (decs sp [] i nid os) fx
  | [], _, _, _, _, _ => by simp [decs, setFx]
  | o :: os, [], _, _, hl, _ => by simp at hl
  | o :: os, f :: fx, i, nid, hl, h => by
    simp only [decs, setFx]
    have h0 := h 0 f rfl
    rw [Nat.add_zero] at h0
    rw [h0, decs_fx sp asm os fx (i + 1) (nid + weight o) (by simpa using hl) (fun k f hk => by
      have := h (k + 1) f (by simpa using hk)
      rw [show i + (k + 1) = i + 1 + k by omega] at this
      exact this)]

theorem decs_none (sp : Sp) : ∀ (os : List Oper) (i nid : Nat), ∀ d ∈ decs sp [] i nid os, d.fix = none
  | [], _, _, d, h => by simp [decs] at h
  | o :: os, i, nid, d, h => by
    simp only [decs, List.mem_cons] at h
    rcases h with h | h
    · rw [h]; rfl
    · exact decs_none sp os _ _ d h

theorem zip_fx : ∀ (l : List Dec) (fx : List (Option Bool)) (is : List Nat) {β : Type} (F : Nat → Dec → List β), (∀ i d f, F i { d with fix := f } = F i d) → (is.zip (setFx l fx)).flatMap (fun p => F p.1 p.2) = (is.zip l).flatMap (fun p => F p.1 p.2)
  | [], fx, is, _, F, hF => by simp [setFx]
  | d :: l, [], is, _, F, hF => by simp [setFx]
  | d :: l, f :: fx, [], _, F, hF => by simp
  | d :: l, f :: fx, i :: is, _, F, hF => by
    simp only [setFx, List.zip_cons_cons, List.flatMap_cons, hF]
    rw [zip_fx l fx is F hF]

theorem zip_fx_all : ∀ (l : List Dec) (fx : List (Option Bool)) (is : List Nat) (F : Nat → Dec → Bool), (∀ i d f, F i { d with fix := f } = F i d) → (is.zip (setFx l fx)).all (fun p => F p.1 p.2) = (is.zip l).all (fun p => F p.1 p.2)
  | [], fx, is, F, hF => by simp [setFx]
  | d :: l, [], is, F, hF => by simp [setFx]
  | d :: l, f :: fx, [], F, hF => by simp
  | d :: l, f :: fx, i :: is, F, hF => by
    simp only [setFx, List.zip_cons_cons, List.all_cons, hF]
    rw [zip_fx_all l fx is F hF]

theorem guard1_fx (b : Array Nat) (l : List Dec) (fx : List (Option Bool)) (i : Nat) (d : Dec) : guard1 b (numbered (setFx l fx)) (i, d) = guard1 b (numbered l) (i, d) := by
  have h1 : (numbered (setFx l fx)).flatMap (fun (j, e) => if j ≠ i && !ordered b i j then List.range' e.nid e.cnt else []) = (numbered l).flatMap (fun (j, e) => if j ≠ i && !ordered b i j then List.range' e.nid e.cnt else []) := by
    unfold numbered
    rw [setFx_length]
    exact zip_fx l fx _ (fun j e => if j ≠ i && !ordered b i j then List.range' e.nid e.cnt else []) (fun _ _ _ => rfl)
  have h2 : (numbered (setFx l fx)).all (fun (j, e) => j = i || ordered b i j || !heapy e.o) = (numbered l).all (fun (j, e) => j = i || ordered b i j || !heapy e.o) := by
    unfold numbered
    rw [setFx_length]
    exact zip_fx_all l fx _ (fun j e => j = i || ordered b i j || !heapy e.o) (fun _ _ _ => rfl)
  unfold guard1
  simp only [h1, h2]

theorem map_guard_fx (b : Array Nat) (all : List (Nat × Dec)) : ∀ (l : List Dec) (fx : List (Option Bool)) (is : List Nat), is.length = l.length → (is.zip (setFx l fx)).map (guard1 b all) = setFx ((is.zip l).map (guard1 b all)) fx
  | [], fx, is, _ => by simp [setFx]
  | d :: l, [], is, _ => by cases is <;> simp [setFx]
  | d :: l, f :: fx, [], h => by simp at h
  | d :: l, f :: fx, i :: is, h => by
    simp only [setFx, List.zip_cons_cons, List.map_cons]
    rw [map_guard_fx b all l fx is (by simpa using h)]
    rfl

theorem decsDraw_fx {sp : Sp} {asm : List (Nat × Bool)} {n : Nat} {ops : Array Oper} {fx : List (Option Bool)} (h : decs sp asm 0 n ops.toList = setFx (decs sp [] 0 n ops.toList) fx) : decsDraw sp asm n ops = setFx (decsDraw sp [] n ops) fx := by
  unfold decsDraw
  simp only
  rw [h, guardDecs_map, guardDecs_map]
  have : guard1 (Region.before ops) (numbered (setFx (decs sp [] 0 n ops.toList) fx)) = guard1 (Region.before ops) (numbered (decs sp [] 0 n ops.toList)) := by
    funext ⟨i, d⟩
    exact guard1_fx _ _ _ _ _
  rw [this]
  unfold numbered
  rw [setFx_length]
  exact map_guard_fx _ _ _ _ _ (by simp)

theorem decsDraw_none {sp : Sp} {n : Nat} {ops : Array Oper} : ∀ d ∈ decsDraw sp [] n ops, d.fix = none := by
  intro d hd
  unfold decsDraw at hd
  simp only at hd
  rw [guardDecs_map] at hd
  obtain ⟨p, hp, rfl⟩ := List.mem_map.1 hd
  have : p.2 ∈ decs sp [] 0 n ops.toList := (List.of_mem_zip hp).2
  exact (show (guard1 _ _ p).fix = p.2.fix from rfl).trans (decs_none sp _ _ _ _ this)

theorem decsDraw_length {sp : Sp} {asm : List (Nat × Bool)} {n : Nat} {ops : Array Oper} : (decsDraw sp asm n ops).length = ops.toList.length := by
  unfold decsDraw
  simp only
  rw [guardDecs_map, List.length_map, numbered_length, decs_length]

/-- A region, all ways. -/
def vcR (P : Program) (sp : Sp) (ops : Array Oper) (draw : Bool) (h : Hint) (s : St) (K : Hint → St → Prop) : Prop :=
  if noDefer ops then
    if draw then
      if apartAll ops (Region.before ops) && orderB ops (Region.before ops) then vcD P ops 0 (decsDraw sp [] s.heap.length ops) h ⟨s.tmps, s.heap ++ List.replicate (total ops.toList) .free⟩ K else Stuck 1000
    else vcD P ops 0 (decs sp [] 0 s.heap.length ops.toList) h ⟨s.tmps, s.heap ++ List.replicate (total ops.toList) .free⟩ K
  else Stuck 1001

theorem vcR_sound {P : Program} {sp : Sp} {ops : Array Oper} {draw : Bool} {h : Hint} {s : St} {K : Hint → St → Prop} (hv : vcR P sp ops draw h s K) :
    ∃ asm s' ps h', runR P sp asm ops draw s = some (s', ps) ∧ (∀ p ∈ ps, p) ∧ K h' s' := by
  unfold vcR at hv
  split at hv
  case isFalse => exact hv.elim
  rename_i hnd
  split at hv
  · rename_i hd
    split at hv
    · rename_i hg
      obtain ⟨fx, hl, s', ps, h', hr, hp, hK⟩ := vcD_sound _ _ _ _ decsDraw_none hv
      rw [decsDraw_length] at hl
      refine ⟨asmOf 0 fx, s', ps, h', ?_, hp, hK⟩
      unfold runR
      simp only [hd, hnd, if_true]
      rw [if_pos hg, decsDraw_fx (decs_fx sp (asmOf 0 fx) ops.toList fx 0 _ hl (fun k f hk => asmOf_get fx 0 k hk))]
      exact hr
    · exact hv.elim
  · rename_i hd
    obtain ⟨fx, hl, s', ps, h', hr, hp, hK⟩ := vcD_sound _ _ _ _ (decs_none sp _ _ _) hv
    rw [decs_length] at hl
    refine ⟨asmOf 0 fx, s', ps, h', ?_, hp, hK⟩
    unfold runR
    simp only
    rw [if_pos hnd, if_neg hd, decs_fx sp (asmOf 0 fx) ops.toList fx 0 _ hl (fun k f hk => asmOf_get fx 0 k hk)]
    exact hr

/-- Some temporaries, of so many; the others forgotten. -/
def stOf (nt : Nat) (keep : List Nat) (vals : List D) (H : Heap) : St := ⟨(List.range nt).map fun i => ((keep.zip vals).lookup i).getD .top, H⟩

/-- What is kept of a state: some temporaries and the rows that they need. -/
def normV (n : Nat) (keep : List Nat) (s : St) : Option St :=
  let vals := keep.map fun i => s.tmps.getD i .top
  let ids := gcIds n s.heap vals
  if packOk n ids s.heap vals then some (stOf s.tmps.length keep (renDs (pos ids) vals) (packH ids s.heap)) else none

theorem lookup_zip {α : Type} (g : Nat → α) : ∀ (keep : List Nat) (i : Nat), (keep.zip (keep.map g)).lookup i = if i ∈ keep then some (g i) else none
  | [], i => by simp
  | k :: keep, i => by
    simp only [List.map_cons, List.zip_cons_cons, List.lookup]
    by_cases h : i = k
    · subst h; simp
    · rw [show (i == k) = false by simpa using h]
      simp only [List.mem_cons, h, false_or]
      exact lookup_zip g keep i

theorem renDs_map (f : Nat → Nat) : ∀ ds : List D, renDs f ds = ds.map (renD f)
  | [] => rfl
  | d :: ds => by simp only [renDs, List.map_cons, renDs_map f ds]

theorem relDs_at {X : Ctx} : ∀ {ds : List D} {us : List Value} {i : Nat} {d : D} {u : Value}, RelDs X ds us → ds[i]? = some d → us[i]? = some u → RelD X d u
  | [], _, i, _, _, _, h, _ => by simp at h
  | d0 :: ds, us, i, d, u, hr, h1, h2 => by
    simp only [RelDs] at hr
    obtain ⟨u0, us', rfl, hr1, hr2⟩ := hr
    cases i with
    | zero =>
      simp only [List.getElem?_cons_zero, Option.some.injEq] at h1 h2
      subst h1; subst h2
      exact hr1
    | succ i => exact relDs_at hr2 (by simpa using h1) (by simpa using h2)

theorem relDs_of_get {X : Ctx} : ∀ {ds : List D} {us : List Value}, ds.length = us.length → (∀ (i : Nat) (d : D) (u : Value), ds[i]? = some d → us[i]? = some u → RelD X d u) → RelDs X ds us
  | [], [], _, _ => by simp only [RelDs]
  | [], _ :: _, h, _ => by simp at h
  | _ :: _, [], h, _ => by simp at h
  | d :: ds, u :: us, h, hr => by
    simp only [RelDs]
    exact ⟨u, us, rfl, hr 0 d u rfl rfl, relDs_of_get (by simpa using h) (fun i d u h1 h2 => hr (i + 1) d u (by simpa using h1) (by simpa using h2))⟩

theorem keep_rels {X : Ctx} {tmps : List D} {us : List Value} (h : RelDs X tmps us) (hlen : us.length = tmps.length) : ∀ keep : List Nat, (∀ i ∈ keep, i < tmps.length) → RelDs X (keep.map fun i => tmps.getD i .top) (keep.map fun i => us.getD i undef)
  | [], _ => by simp only [List.map_nil, RelDs]
  | k :: keep, hk => by
    simp only [List.map_cons, RelDs]
    refine ⟨_, _, rfl, ?_, keep_rels h hlen keep (fun i hi => hk i (List.mem_cons_of_mem _ hi))⟩
    have := hk k List.mem_cons_self
    refine relDs_at h (i := k) ?_ ?_
    · rw [List.getD_eq_getElem?_getD, List.getElem?_eq_getElem this]; rfl
    · rw [List.getD_eq_getElem?_getD, List.getElem?_eq_getElem (by omega)]; rfl

/-- The same memory, with fewer rows, or with more that have no cells. -/
structure Shr (X X' : Ctx) : Prop where
  w : X'.w = X.w
  S : X'.S = X.S
  blk : ∀ id l, hget X'.H id ≠ none → X'.ρ id = some l → ∃ id', hget X.H id' ≠ none ∧ ∃ l', X.ρ id' = some l' ∧ l'.b = l.b

theorem Shr.refl (X : Ctx) : Shr X X := ⟨rfl, rfl, fun id l h1 h2 => ⟨id, h1, l, h2, rfl⟩⟩

theorem Shr.trans {X Y Z : Ctx} (h : Shr X Y) (k : Shr Y Z) : Shr X Z := by
  refine ⟨k.w.trans h.w, k.S.trans h.S, fun id l h1 h2 => ?_⟩
  obtain ⟨id', g1, l', g2, g3⟩ := k.blk id l h1 h2
  obtain ⟨id2, e1, l2, e2, e3⟩ := h.blk id' l' g1 g2
  exact ⟨id2, e1, l2, e2, e3.trans g3⟩

theorem shr_pack (X : Ctx) (ids : List Nat) : Shr X (packX X ids) := by
  refine ⟨rfl, rfl, fun id l h1 h2 => ?_⟩
  have h2 : X.ρ (ids.getD id 0) = some l := h2
  cases hr : hget (packX X ids).H id with
  | none => exact absurd hr h1
  | some r =>
    obtain ⟨_, r0, h3, _⟩ := pack_get ids (show hget (packH ids X.H) id = some r from hr)
    exact ⟨_, by rw [h3]; simp, l, h2, rfl⟩

section
variable {b : Beg} {X : Ctx}

theorem normV_rel {n : Nat} {keep : List Nat} {s s' : St} {a : Act} (R : Rel b X s a) (hn : b.n = n) (h : normV n keep s = some s') : ∃ X', Shr X X' ∧ Rel b X' s' a := by
  unfold normV at h
  simp only at h
  split at h
  · rename_i hk
    simp only [Option.some.injEq] at h
    subst h
    generalize hids : gcIds n s.heap (keep.map fun i => s.tmps.getD i .top) = ids at hk ⊢
    have hk' : packOk n ids X.H (keep.map fun i => s.tmps.getD i .top) = true := by
      rw [R.heap]
      exact hk
    have hlen := relDs_length R.tmps
    refine ⟨packX X ids, shr_pack X ids, mem_pack R.mem hn hk', ?_, ?_, ?_, R.defers⟩
    · simp only [stOf]
      refine relDs_of_get (by simp [hlen]) ?_
      intro i d u h1 h2
      rw [renDs_map, List.map_map, List.getElem?_map] at h1
      have hi := (List.getElem?_eq_some_iff.1 h2).1
      have hi2 : i < s.tmps.length := by omega
      rw [List.getElem?_range hi2] at h1
      simp only [Option.map_some, Option.some.injEq] at h1
      rw [lookup_zip] at h1
      subst h1
      split
      · rename_i hm
        simp only [Option.getD_some, Function.comp]
        refine pack_rel ids ?_ (relDs_at R.tmps (i := i) ?_ h2)
        · unfold packOk at hk
          simp only [Bool.and_eq_true] at hk
          have h4 := hk.1.2
          have : ∀ (l : List D) (d : D), d ∈ l → inB ids (refsDs l) = true → inB ids (refsD d) = true := by
            intro l
            induction l with
            | nil => intro d hd; simp at hd
            | cons x l ih =>
              intro d hd hin
              simp only [refsDs, inB, List.all_append, Bool.and_eq_true] at hin
              rcases List.mem_cons.1 hd with e | e
              · rw [e]; exact hin.1
              · exact ih d e hin.2
          exact this _ _ (List.mem_map.2 ⟨i, hm, rfl⟩) h4
        · rw [List.getD_eq_getElem?_getD, List.getElem?_eq_getElem hi2]; rfl
      · simp only [Option.getD_none, RelD]
    · show packH _ X.H = _
      rw [R.heap]
      rfl
    · unfold packOk at hk
      simp only [Bool.and_eq_true, decide_eq_true_eq] at hk
      show b.n ≤ (packH _ _).length
      rw [hn]
      simpa [packH] using hk.1.1.2
  · cases h

end

/-- A temporary that may hold nil, taken as an empty slice of the call's own; where its room is known (in numbers), that is forgotten. -/
structure Co where
  t : Nat
  e : TypeId
  ty : Ty

def coe1 (c : Co) (s : St) : St :=
  match s.tmps[c.t]? with
  | some (.v (.slice none 0 0)) => ⟨s.tmps.set c.t (.own s.heap.length 0 0 none), s.heap ++ [.live (.data c.e c.ty [])]⟩
  | some (.own id off len (some k)) => match hget s.heap id with
    | some (.data _ _ xs) => if xs.length ≤ off + k then ⟨s.tmps.set c.t (.own id off len none), s.heap⟩ else s
    | _ => s
  | some (.ptr i _ _) => match hget s.heap i with
    | some (.box e (.v (.slice none 0 0) :: ds)) => ⟨s.tmps, (s.heap ++ [Slot.live (.data c.e c.ty [])]).set i (.live (.box e (.own s.heap.length 0 0 none :: ds)))⟩
    | some (.box e (.own id off len (some k) :: ds)) => match hget s.heap id with
      | some (.data _ _ xs) => if xs.length ≤ off + k then ⟨s.tmps, s.heap.set i (.live (.box e (.own id off len none :: ds)))⟩ else s
      | _ => s
    | _ => s
  | _ => s

def coeS : List Co → St → St
  | [], s => s
  | c :: cs, s => coeS cs (coe1 c s)

theorem slot_end (H : Heap) (r : Slot) (id : Nat) : slot (H ++ [r]) id = if id = H.length then r else slot H id := by
  unfold slot
  rw [List.getD_eq_getElem?_getD, List.getD_eq_getElem?_getD]
  split
  · rename_i h
    rw [h, List.getElem?_append_right (Nat.le_refl _)]
    simp
  · rename_i h
    rcases Nat.lt_or_ge id H.length with h1 | h1
    · rw [List.getElem?_append_left h1]
    · rw [List.getElem?_eq_none (by simp; omega), List.getElem?_eq_none h1]

section
variable {b : Beg} {X : Ctx}

def coeX (X : Ctx) (e : TypeId) (ty : Ty) : Ctx := ⟨fun id => if id = X.H.length then none else X.ρ id, X.H ++ [.live (.data e ty [])], X.S, X.w⟩

theorem coeX_slot (X : Ctx) (e : TypeId) (ty : Ty) (id : Nat) : slot (coeX X e ty).H id = if id = X.H.length then .live (.data e ty []) else slot X.H id := slot_end _ _ _

theorem coeX_le (X : Ctx) (e : TypeId) (ty : Ty) : Le X (coeX X e ty) := by
  refine ⟨fun k hk => ⟨hk, rfl⟩, fun id => ?_⟩
  by_cases h : id = X.H.length
  · have : slot X.H id = .free := by
      subst h
      simp [slot]
    unfold Pair
    rw [this]
    trivial
  · have hs : slot (coeX X e ty).H id = slot X.H id := by rw [coeX_slot, if_neg h]
    have hρ : (coeX X e ty).ρ id = X.ρ id := if_neg h
    unfold Pair
    rw [hs]
    cases slot X.H id with
    | free => trivial
    | dead => trivial
    | live r => exact ⟨Comp.refl r, hρ⟩

theorem coeX_mem (M : Mem b X) (hl : b.n ≤ X.H.length) (e : TypeId) (ty : Ty) : Mem b (coeX X e ty) := by
  have hg : ∀ id, hget (coeX X e ty).H id ≠ none → id = X.H.length ∨ (id ≠ X.H.length ∧ hget X.H id ≠ none) := by
    intro id h
    unfold hget at h
    rw [coeX_slot] at h
    by_cases hi : id = X.H.length
    · exact .inl hi
    · rw [if_neg hi] at h
      exact .inr ⟨hi, h⟩
  have hr : ∀ {id p}, (coeX X e ty).ρ id = some p → id ≠ X.H.length ∧ X.ρ id = some p := by
    intro id p h
    by_cases hi : id = X.H.length
    · simp [coeX, hi] at h
    · exact ⟨hi, by simpa [coeX, hi] using h⟩
  refine ⟨M.os, M.tape, M.output, M.size, ?_, ?_, ?_, M.stab, M.keep, ?_, ?_, M.sub, M.sup, M.glob⟩
  · intro i j p q hi hj hp hq hpq
    obtain ⟨h1, h2⟩ := hr hp
    obtain ⟨h3, h4⟩ := hr hq
    rcases hg i hi with h | ⟨_, h⟩
    · exact absurd h h1
    · rcases hg j hj with h' | ⟨_, h'⟩
      · exact absurd h' h3
      · exact M.inj i j p q h h' h2 h4 hpq
  · intro id r h
    have hs := hget_live.1 h
    rw [coeX_slot] at hs
    by_cases hi : id = X.H.length
    · rw [if_pos hi] at hs
      simp only [Slot.live.injEq] at hs
      subst hs
      show RelRow _ _ (if id = X.H.length then none else X.ρ id)
      rw [if_pos hi]
      rfl
    · rw [if_neg hi] at hs
      show RelRow _ _ (if id = X.H.length then none else X.ρ id)
      rw [if_neg hi]
      exact relRow_le (coeX_le X e ty) (fun _ _ => rfl) (M.rows id r (hget_live.2 hs))
  · intro id p hid hp
    obtain ⟨h1, h2⟩ := hr hp
    rcases hg id hid with h | ⟨_, h⟩
    · exact absurd h h1
    · exact M.sep id p h h2
  · intro id p hid hp
    obtain ⟨h1, h2⟩ := hr hp
    rcases hg id hid with h | ⟨_, h⟩
    · exact absurd h h1
    · exact M.fresh id p h h2
  · intro id h hid
    rcases hg id hid with h' | ⟨h1, h'⟩
    · omega
    · show (if id = X.H.length then none else X.ρ id) = _
      rw [if_neg h1]
      exact M.old id h h'

theorem shr_coe (X : Ctx) (e : TypeId) (ty : Ty) : Shr X (coeX X e ty) := by
  refine ⟨rfl, rfl, fun id l h1 h2 => ?_⟩
  have h2 : (if id = X.H.length then none else X.ρ id) = some l := h2
  split at h2
  · cases h2
  · rename_i hne
    refine ⟨id, ?_, l, h2, rfl⟩
    intro h3
    apply h1
    unfold hget
    rw [coeX_slot, if_neg hne]
    exact h3

/-- A variable's cells, known otherwise. -/
def boxX (X : Ctx) (id : Nat) (r : Row) : Ctx := ⟨X.ρ, X.H.set id (.live r), X.S, X.w⟩

theorem boxX_le {X : Ctx} {id : Nat} {e e' : TypeId} {cs cs' : List D} (h : hget X.H id = some (.box e cs)) : Le X (boxX X id (.box e' cs')) := by
  have hs := hget_live.1 h
  refine ⟨fun k hk => ⟨hk, rfl⟩, fun j => ?_⟩
  have hj : slot (boxX X id (.box e' cs')).H j = if id = j ∧ id < X.H.length then .live (.box e' cs') else slot X.H j := slot_set _ _ _ _
  unfold Pair
  rw [hj]
  by_cases hi : id = j
  · subst hi
    rw [if_pos ⟨rfl, lt_of_slot (by rw [hs]; simp)⟩, hs]
    exact ⟨trivial, rfl⟩
  · rw [if_neg (fun h => hi h.1)]
    cases slot X.H j with
    | free => trivial
    | dead => trivial
    | live r => exact ⟨Comp.refl r, rfl⟩

theorem boxX_mem (M : Mem b X) {id : Nat} {e e' : TypeId} {cs cs' : List D} (h : hget X.H id = some (.box e cs)) (hr : RelRow X (.box e' cs') (X.ρ id)) : Mem b (boxX X id (.box e' cs')) := by
  have hg : ∀ j, hget (boxX X id (.box e' cs')).H j ≠ none → hget X.H j ≠ none := by
    intro j hj
    by_cases hi : id = j
    · subst hi; rw [h]; simp
    · rw [show hget (boxX X id (.box e' cs')).H j = hget X.H j from by rw [show (boxX X id (.box e' cs')).H = X.H.set id _ from rfl, hget_set, if_neg (fun h => hi h.1)]] at hj
      exact hj
  refine ⟨M.os, M.tape, M.output, M.size, fun i j p q hi hj => M.inj i j p q (hg i hi) (hg j hj), ?_, fun j p hj => M.sep j p (hg j hj), M.stab, M.keep, fun j p hj => M.fresh j p (hg j hj), fun j hb hj => M.old j hb (hg j hj), M.sub, M.sup, M.glob⟩
  intro j r hj
  rw [show hget (boxX X id (.box e' cs')).H j = _ from hget_set _ _ _ _] at hj
  split at hj
  · rename_i hi
    simp only [Option.some.injEq] at hj
    subst hj
    rw [← hi.1]
    exact relRow_le (boxX_le h) (fun _ _ => rfl) hr
  · exact relRow_le (boxX_le h) (fun _ _ => rfl) (M.rows j r hj)

theorem shr_box (X : Ctx) {id : Nat} {e e' : TypeId} {cs cs' : List D} (h : hget X.H id = some (.box e cs)) : Shr X (boxX X id (.box e' cs')) := by
  refine ⟨rfl, rfl, fun j l h1 h2 => ⟨j, ?_, l, h2, rfl⟩⟩
  intro h3
  apply h1
  rw [show hget (boxX X id (.box e' cs')).H j = _ from hget_set _ _ _ _]
  split
  · rename_i hi
    rw [← hi.1, h] at h3
    cases h3
  · exact h3

theorem relRow_box {X : Ctx} {e : TypeId} {d d' : D} {ds : List D} {p : Option Loc} (h : RelRow X (.box e (d :: ds)) p) (hd : ∀ u, RelD X d u → RelD X d' u) : RelRow X (.box e (d' :: ds)) p := by
  cases p with
  | none => exact h
  | some l =>
    obtain ⟨cs, ty, h1, h2, h3, us, h4, h5, h6⟩ := h
    refine ⟨cs, ty, h1, h2, h3, us, h4, ?_, h6⟩
    simp only [RelDs] at h5 ⊢
    obtain ⟨u, us', h7, h8, h9⟩ := h5
    exact ⟨u, us', h7, hd u h8, h9⟩

theorem coe1_rel {s : St} {a : Act} (R : Rel b X s a) (c : Co) : ∃ X', Shr X X' ∧ Rel b X' (coe1 c s) a := by
  unfold coe1
  split
  · rename_i ht
    refine ⟨coeX X c.e c.ty, shr_coe X c.e c.ty, coeX_mem R.mem (by rw [R.heap]; exact R.len) _ _, ?_, ?_, ?_, R.defers⟩
    · have hT := (coeX_le X c.e c.ty).ds R.tmps
      refine relDs_of_get (by simp [relDs_length R.tmps]) ?_
      intro i d u h1 h2
      rw [List.getElem?_set] at h1
      split at h1
      · rename_i hi
        split at h1
        · simp only [Option.some.injEq] at h1
          subst h1; subst hi
          have hu := relDs_at R.tmps ht h2
          simp only [RelD] at hu
          subst hu
          simp only [RelD]
          rw [coeX_slot, R.heap, if_pos rfl]
          refine ⟨by simp, none, 0, rfl, by simp, by simp, by simp, by simp, .inl rfl⟩
        · cases h1
      · exact relDs_at hT h1 h2
    · show X.H ++ _ = _
      rw [R.heap]
    · have := R.len
      simp
      omega
  · rename_i id off len k ht
    split
    · rename_i e ty xs hr
      split
      · rename_i hk
        refine ⟨X, Shr.refl X, R.mem, ?_, R.heap, R.len, R.defers⟩
        refine relDs_of_get (by simp [relDs_length R.tmps]) ?_
        intro i d u h1 h2
        rw [List.getElem?_set] at h1
        split at h1
        · rename_i hi
          split at h1
          · simp only [Option.some.injEq] at h1
            subst h1; subst hi
            exact own_forget (by rw [R.heap]; exact hget_live.1 hr) hk (relDs_at R.tmps ht h2)
          · cases h1
        · exact relDs_at R.tmps h1 h2
      · exact ⟨X, Shr.refl X, R⟩
    · exact ⟨X, Shr.refl X, R⟩
  · rename_i i i1 i2 ht
    split
    · rename_i e ds hi
      have hl : i < X.H.length := by rw [R.heap]; exact lt_of_slot (by rw [hget_live.1 hi]; simp)
      have hX : hget (coeX X c.e c.ty).H i = some (.box e (.v (.slice none 0 0) :: ds)) := by
        have h1 := hget_live.1 hi
        rw [← R.heap] at h1
        rw [hget_live, coeX_slot, if_neg (by omega), h1]
      have M1 := coeX_mem R.mem (by rw [R.heap]; exact R.len) c.e c.ty
      have hρ : (coeX X c.e c.ty).ρ i = X.ρ i := if_neg (by omega)
      have hrow : RelRow (coeX X c.e c.ty) (.box e (.own X.H.length 0 0 none :: ds)) ((coeX X c.e c.ty).ρ i) := by
        refine relRow_box (M1.rows i _ hX) (fun u hu => ?_)
        simp only [RelD] at hu
        subst hu
        simp only [RelD]
        rw [coeX_slot, if_pos rfl]
        exact ⟨by simp, none, 0, rfl, by simp, by simp, by simp, by simp, .inl rfl⟩
      rw [← R.heap]
      refine ⟨boxX (coeX X c.e c.ty) i (.box e (.own X.H.length 0 0 none :: ds)), (shr_coe X c.e c.ty).trans (shr_box _ hX), boxX_mem M1 hX hrow, (boxX_le hX).ds ((coeX_le X c.e c.ty).ds R.tmps), rfl, ?_, R.defers⟩
      have := R.len
      rw [← R.heap] at this
      show b.n ≤ ((X.H ++ _).set i _).length
      simp
      omega
    · rename_i e id off len k ds hi
      split
      · rename_i e2 ty xs hr
        split
        · rename_i hk
          have hX : hget X.H i = some (.box e (.own id off len (some k) :: ds)) := by rw [R.heap]; exact hi
          have hrow : RelRow X (.box e (.own id off len none :: ds)) (X.ρ i) :=
            relRow_box (R.mem.rows i _ hX) (fun u hu => own_forget (by rw [R.heap]; exact hget_live.1 hr) hk hu)
          rw [← R.heap]
          refine ⟨boxX X i (.box e (.own id off len none :: ds)), shr_box _ hX, boxX_mem R.mem hX hrow, (boxX_le hX).ds R.tmps, rfl, ?_, R.defers⟩
          have := R.len
          rw [← R.heap] at this
          show b.n ≤ (X.H.set i _).length
          simp
          omega
        · exact ⟨X, Shr.refl X, R⟩
      · exact ⟨X, Shr.refl X, R⟩
    · exact ⟨X, Shr.refl X, R⟩
  · exact ⟨X, Shr.refl X, R⟩

theorem coeS_rel : ∀ (cs : List Co) {X : Ctx} {s : St} {a : Act}, Rel b X s a → ∃ X', Shr X X' ∧ Rel b X' (coeS cs s) a
  | [], X, s, a, R => ⟨X, Shr.refl X, R⟩
  | c :: cs, X, s, a, R => by
    obtain ⟨X1, h1, R1⟩ := coe1_rel R c
    obtain ⟨X2, h2, R2⟩ := coeS_rel cs R1
    exact ⟨X2, h1.trans h2, R2⟩

end

theorem Goes.coe {P : Program} {T : Goal P} {n : Nat} {k : List Item} {s : St} (cs : List Co) (hg : Goes P T n k (coeS cs s)) : Goes P T n k s := by
  intro b X a fr fs hr hb hd R
  obtain ⟨X1, ⟨hw, _, _⟩, R1⟩ := coeS_rel cs R
  have := hg b X1 a fr fs hr hb hd R1
  rw [hw] at this
  exact this

/-- The loops of a code, each with what comes behind. -/
def hC : Code → List Item → List (List Item)
  | .seq x y, k => hC x (.code y :: k) ++ hC y k
  | .cond _ x y, k => hC x k ++ hC y k
  | .block id c, k => hC c (.inBlock id :: k)
  | .scope c, k => hC c (.inScope c :: k)
  | .loop c, k => (.code c :: .inLoop c :: k) :: hC c (.inLoop c :: k)
  | _, _ => []

def KK (c : Code) (i : Nat) : List Item := (hC c []).getD i []

/-- Might the two be the same? A first look. -/
def codeSim : Code → Code → Bool
  | .skip, .skip => true
  | .label _, .label _ => true
  | .region i _ _, .region j _ _ => i == j
  | .seq _ _, .seq _ _ => true
  | .cond _ _ _, .cond _ _ _ => true
  | .block i _, .block j _ => i == j
  | .loop _, .loop _ => true
  | .exit i, .exit j => i == j
  | .goto i, .goto j => true
  | .scope _, .scope _ => true
  | .ret, .ret => true
  | .rangeFunc _ _ _ _, .rangeFunc _ _ _ _ => true
  | _, _ => false
def headSim : List Item → List Item → Bool
  | [], [] => true
  | .code a :: _, .code b :: _ => codeSim a b
  | .code _ :: _, _ => false
  | _, .code _ :: _ => false
  | [], _ => false
  | _, [] => false
  | _, _ => true

def cutAt (K : Nat → List Item) (h : Hint) (k : List Item) : Option Nat :=
  match h with
  | .cut i => if headSim k (K i) && k.length == (K i).length then some i else none
  | _ => none

/-- What is left to show of all ways from a place in a code to its end (E: off it, or by a jump that nothing catches) or to places of the list K. -/
def vcX (P : Program) (sp : Sp) (n : Nat) (K : Nat → List Item) (keep : Nat → List Nat) (co : Nat → List Co) (E : Option Code → St → Prop) (G : Nat → St → Prop) : Nat → List Item → Hint → St → Prop
  | 0, _, _, _ => Stuck 2000
  | f + 1, k, h, s =>
    match cutAt K h k with
    | some i => match normV n (keep i) (coeS (co i) s) with
      | some s' => SameK k (K i) ∧ G i s'
      | none => Stuck 2001
    | none => match k with
      | [] => E none s
      | .code c :: k => match c with
        | .skip => vcX P sp n K keep co E G f k h s
        | .label _ => vcX P sp n K keep co E G f k h s
        | .region _ ops draw => vcR P sp ops draw h s (fun h' s' => vcX P sp n K keep co E G f k h' s')
        | .seq x y => vcX P sp n K keep co E G f (.code x :: .code y :: k) h s
        | .cond c x y => match evalD s.tmps c with
          | .v (.bool b) => match h with
            | .t h => b = true ∧ vcX P sp n K keep co E G f (.code x :: k) h s
            | .f h => b = false ∧ vcX P sp n K keep co E G f (.code y :: k) h s
            | .fork h1 h2 => (b = true → vcX P sp n K keep co E G f (.code x :: k) h1 s) ∧ (b = false → vcX P sp n K keep co E G f (.code y :: k) h2 s)
            | _ => Stuck 2003
          | _ => Stuck 2004
        | .block id c => vcX P sp n K keep co E G f (.code c :: .inBlock id :: k) h s
        | .loop c => match h with
          | .go h => vcX P sp n K keep co E G f (.code c :: .inLoop c :: k) h s
          | .hd i => match normV n (keep i) (coeS (co i) s) with
            | some s' => SameK (.code c :: .inLoop c :: k) (K i) ∧ G i s'
            | none => Stuck 2001
          | _ => Stuck 2005
        | .exit id => match exitTo id k with
          | some k' => vcX P sp n K keep co E G f k' h s
          | none => E (some (.exit id)) s
        | .goto l => match gotoIn l k with
          | some k' => vcX P sp n K keep co E G f k' h s
          | none => Stuck 2007
        | .scope c => vcX P sp n K keep co E G f (.code c :: .inScope c :: k) h s
        | .ret => E (some .ret) s
        | _ => Stuck 2008
      | .inBlock _ :: k => vcX P sp n K keep co E G f k h s
      | .inScope _ :: k => vcX P sp n K keep co E G f k h s
      | .inLoop c :: k => match h with
        | .go h => vcX P sp n K keep co E G f (.code c :: .inLoop c :: k) h s
        | .hd i => match normV n (keep i) (coeS (co i) s) with
          | some s' => SameK (.code c :: .inLoop c :: k) (K i) ∧ G i s'
          | none => Stuck 2001
        | _ => Stuck 2005
      | _ => Stuck 2009

/-- A function's end. -/
def endFn (co : Nat → List Co) (fin : St → Option (D × List (Option Row) × List Row)) (R : D × List (Option Row) × List Row → Prop) (j : Option Code) (s : St) : Prop :=
  match j with
  | some (.exit _) => Stuck 2006
  | _ => match fin (coeS (co 99) s) with
    | some r => R r
    | none => Stuck 2002

/-- The same, for the ways to a function's end. -/
def vcK (P : Program) (sp : Sp) (n : Nat) (K : Nat → List Item) (keep : Nat → List Nat) (co : Nat → List Co) (fin : St → Option (D × List (Option Row) × List Row)) (G : Nat → St → Prop) (R : D × List (Option Row) × List Row → Prop) (f : Nat) (k : List Item) (h : Hint) (s : St) : Prop :=
  vcX P sp n K keep co (endFn co fin R) G f k h s

theorem Goes.normV {P : Program} {T : Goal P} {n : Nat} {k : List Item} {s s' : St} {keep : List Nat} (h : normV n keep s = some s') (hg : Goes P T n k s') : Goes P T n k s := by
  intro b X a fr cs hr hb hd R
  obtain ⟨X1, ⟨hw, _, _⟩, R1⟩ := normV_rel R hb h
  have := hg b X1 a fr cs hr hb hd R1
  rw [hw] at this
  exact this

theorem vcX_sound {P : Program} {T : Goal P} {sp : Sp} {n : Nat} {K : Nat → List Item} {keep : Nat → List Nat} {co : Nat → List Co} {E : Option Code → St → Prop} {G : Nat → St → Prop}
    (hm : P.follows .mixedOrders = true) (hG : ∀ i s, G i s → Goes P T n (K i) s) (h0 : ∀ s, E none s → Goes P T n [] s) (h1 : ∀ k s, E (some .ret) s → Goes P T n (.code .ret :: k) s)
    (h2 : ∀ id k s, exitTo id k = none → E (some (.exit id)) s → Goes P T n (.code (.exit id) :: k) s) : ∀ (f : Nat) (k : List Item) (h : Hint) (s : St), vcX P sp n K keep co E G f k h s → Goes P T n k s := by
  intro f
  induction f with
  | zero => intro k h s hv; exact hv.elim
  | succ f ih =>
    intro k h s hv
    have stop : ∀ {k : List Item} {i : Nat} {s' : St}, normV n (keep i) (coeS (co i) s) = some s' → SameK k (K i) ∧ G i s' → Goes P T n k s := by
      intro k i s' hn hs
      have e : k = K i := hs.1
      subst e
      exact .coe (co i) (.normV hn (hG i s' hs.2))
    unfold vcX at hv
    split at hv
    · split at hv
      · rename_i s' hn
        exact stop hn hv
      · exact hv.elim
    · split at hv
      · exact h0 _ hv
      · split at hv
        · exact .step (fun _ _ _ _ => stepR_skip) (ih _ _ _ hv)
        · exact .step (fun _ _ _ _ => stepR_label) (ih _ _ _ hv)
        · obtain ⟨asm, s', ps, h', hr, hp, hK⟩ := vcR_sound hv
          exact .region hm hr hp (ih _ _ _ hK)
        · exact .step (fun _ _ _ _ => stepR_seq) (ih _ _ _ hv)
        · split at hv
          · rename_i b hb
            split at hv
            · obtain ⟨rfl, hv⟩ := hv
              exact .cond hb (ih _ _ _ hv)
            · obtain ⟨rfl, hv⟩ := hv
              exact .cond hb (ih _ _ _ hv)
            · cases b with
              | true => exact .cond hb (ih _ _ _ (hv.1 rfl))
              | false => exact .cond hb (ih _ _ _ (hv.2 rfl))
            · exact hv.elim
          · exact hv.elim
        · exact .step (fun _ _ _ _ => stepR_block) (ih _ _ _ hv)
        · split at hv
          · exact .step (fun _ _ _ _ => stepR_loop) (ih _ _ _ hv)
          · split at hv
            · rename_i s' hn
              exact .step (fun _ _ _ _ => stepR_loop) (stop hn hv)
            · exact hv.elim
          · exact hv.elim
        · split at hv
          · rename_i k2 he
            exact .step (fun _ _ _ _ => stepR_exit he) (ih _ _ _ hv)
          · rename_i he
            exact h2 _ _ _ he hv
        · split at hv
          · rename_i k2 he
            exact .step (fun _ _ _ _ => stepR_goto he) (ih _ _ _ hv)
          · exact hv.elim
        · exact .step (fun _ _ _ _ => stepR_scope) (ih _ _ _ hv)
        · exact h1 _ _ hv
        · exact hv.elim
      · exact .step (fun _ _ _ _ => stepR_inBlock) (ih _ _ _ hv)
      · exact .step (fun _ _ _ _ => stepR_inScope) (ih _ _ _ hv)
      · split at hv
        · exact .step (fun _ _ _ _ => stepR_inLoop) (ih _ _ _ hv)
        · split at hv
          · rename_i s' hn
            exact .step (fun _ _ _ _ => stepR_inLoop) (stop hn hv)
          · exact hv.elim
        · exact hv.elim
      · exact hv.elim

theorem vcK_sound {P : Program} {sp : Sp} {n : Nat} {K : Nat → List Item} {keep : Nat → List Nat} {co : Nat → List Co} {fin : St → Option (D × List (Option Row) × List Row)} {G : Nat → St → Prop} {R : D × List (Option Row) × List Row → Prop} {Φ : St → Prop}
    (hm : P.follows .mixedOrders = true) (hG : ∀ i s, G i s → Gets P n (K i) s Φ) (hF : ∀ s r, fin s = some r → R r → Φ s) (f : Nat) (k : List Item) (h : Hint) (s : St) (hv : vcK P sp n K keep co fin G R f k h s) : Gets P n k s Φ := by
  have hE : ∀ s, (match fin (coeS (co 99) s) with | some r => R r | none => Stuck 2002) → Φ (coeS (co 99) s) := by
    intro s hv
    split at hv
    · rename_i r hr
      exact hF _ r hr hv
    · exact hv.elim
  exact vcX_sound hm hG (fun s h => .coe (co 99) (Gets.nil (hE s h))) (fun k s h => .coe (co 99) (Gets.ret (hE s h))) (fun id k s _ h => h.elim) f k h s hv

/-- From place i, with this state, the call comes to r. -/
structure GetsK (P : Program) (rs : List ResultVar) (how : List (Option Ty)) (K : Nat → List Item) (n : Nat) (r : D × List (Option Row) × List Row) (i : Nat) (s : St) : Prop where
  out : Gets P n (K i) s (Ends P n rs how r)

theorem gets_vc {P : Program} {rs : List ResultVar} {how : List (Option Ty)} {K : Nat → List Item} {n : Nat} {r : D × List (Option Row) × List Row} {i : Nat} {s : St} (sp : Sp) (keep : Nat → List Nat) (co : Nat → List Co) (f : Nat) (h : Hint) {V : (Nat → St → Prop) → (D × List (Option Row) × List Row → Prop) → Prop}
    (hm : P.follows .mixedOrders = true) (hv : ∀ G R, vcK P sp n K keep co (finS P rs n how) G R f (K i) h s = V G R) (hV : V (GetsK P rs how K n r) (fun x => x = r)) : GetsK P rs how K n r i s := by
  rw [← hv] at hV
  exact ⟨vcK_sound hm (fun _ _ h => h.out) (fun s r' h e => by subst e; exact h) f _ _ _ hV⟩

theorem con_vc {P : Program} {f : FuncId} {fn : Func} {c : Code} {pre : List Row} {args : List D} {val : D} {post : List (Option Row)} {allocs : List Row} {how : List (Option Ty)} {K : Nat → List Item} (sp : Sp) (keep : Nat → List Nat) (co : Nat → List Co) (fu : Nat) (h : Hint)
    {V : (Nat → St → Prop) → (D × List (Option Row) × List Row → Prop) → Prop} (hm : P.follows .mixedOrders = true)
    (hf : P.funcs[f]? = some fn) (hname : (fn.name == "runtime.NumGoroutine") = false) (hb : fn.body = some c)
    (hv : ∀ G R, vcK P sp pre.length K keep co (finS P fn.results.toList pre.length how) G R fu [.code c] h (st0 fn.ntmps pre args) = V G R)
    (hV : V (GetsK P fn.results.toList how K pre.length (val, post, allocs)) (fun x => x = (val, post, allocs))) : Con P f pre args val post allocs := by
  refine con_of hf hname hb (how := how) ?_
  rw [← hv] at hV
  exact vcK_sound hm (fun _ _ h => h.out) (fun s r' h e => by subst e; exact h) fu _ _ _ hV

/-- A call that makes a row: its slice's room forgotten. -/
theorem con_forget {P : Program} {f : FuncId} {args : List D} {n k : Nat} {e : TypeId} {t : Ty} {xs : List t.El} (hk : xs.length ≤ k) (h : Con P f [] args (.own 0 0 n (some k)) [] [.data e t xs]) : Con P f [] args (.own 0 0 n none) [] [.data e t xs] := by
  refine ⟨h.fn, fun w ρ S vs M hargs => (h.run w ρ S vs M hargs).mono ?_⟩
  rintro ex w' ⟨v, ρ', S', h1, h2, h3⟩
  exact ⟨v, ρ', S', h1, h2, own_forget (e := e) (t := t) (xs := xs) rfl (by omega) h3⟩

theorem relDs_vals {X : Ctx} : ∀ {vs us : List Value}, RelDs X (vs.map .v) us → us = vs
  | [], us, h => by simpa only [List.map_nil, RelDs] using h
  | v :: vs, us, h => by
    simp only [List.map_cons, RelDs, RelD] at h
    obtain ⟨u, us', rfl, rfl, h2⟩ := h
    rw [relDs_vals h2]

/-- Of the result only its length is wanted. -/
theorem con_len {P : Program} {f : FuncId} {args : List D} {n : Nat} {cap : Option Nat} {allocs : List Row} (h : Con P f [] args (.own 0 0 n cap) [] allocs) : Con P f [] args (.lenv n) [] [] := by
  refine ⟨h.fn, fun w ρ S vs M hargs => (h.run w ρ S vs M hargs).mono ?_⟩
  rintro ex w' ⟨v, ρ', S', h1, h2, h3⟩
  have hp := mem_pack h2 (n := 0) rfl (ids := []) (ds := []) rfl
  obtain ⟨A, c, e⟩ := lenD_rel (d := .own 0 0 n cap) rfl h3
  exact ⟨v, fun k => ρ' (([] : List Nat).getD k 0), S', h1, hp, by simp only [RelD]; exact ⟨A, c, e⟩⟩

/-- A closure over a variable that nobody writes any more. -/
theorem con_frz {P : Program} {f g : FuncId} {args : List D} {e : TypeId} {cs : List Value} (h : Con P f [] args (.fn g [.ptr 0 0 0]) [] [.box e (cs.map .v)]) : Con P f [] args (.fn g [.rptr (cs.map .v)]) [] [] := by
  refine ⟨h.fn, fun w ρ S vs M hargs => (h.run w ρ S vs M hargs).mono ?_⟩
  rintro ex w' ⟨v, ρ', S', h1, h2, h3⟩
  have h0 : hget (List.map slotOf [] ++ List.map Slot.live [.box e (cs.map .v)]) 0 = some (.box e (cs.map .v)) := rfl
  simp only [RelD, RelDs] at h3
  obtain ⟨us, h4, u, us', rfl, h5, rfl⟩ := h3
  obtain ⟨a, us2, h6, h7, h8⟩ := lent_box (soft := [0]) h2 (by simp) h0 (show RelD _ (.ptr 0 0 0) u by simp only [RelD]; exact h5)
  obtain ⟨M2, _⟩ := mem_kill h2 h0 (softS ⟨ρ', List.map slotOf [] ++ List.map Slot.live [.box e (cs.map .v)], S', w'⟩ [0]) (fun k hk => .inl hk) (fun k hk => by
    rcases hk with hk | ⟨id, hid, _, l, hl, hb⟩
    · exact .inl hk
    · simp only [List.mem_singleton] at hid
      subst hid
      exact .inr ⟨l, hl, hb⟩)
  have hp := mem_pack M2 (n := 0) rfl (ids := []) (ds := []) rfl
  rw [List.drop_zero] at h7
  have e2 := relDs_vals h7
  subst e2
  refine ⟨v, _, _, h1, hp, ?_⟩
  simp only [RelD, RelDs]
  exact ⟨[u], h4, u, [], rfl, ⟨a, us2, h6, relDs_v us2, h8⟩, rfl⟩

end Go.Proofs.YtnakmganodkliaaDoorAm
