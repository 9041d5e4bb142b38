/- The logic: places in a code; rounds and iterators, computed. -/
import Derived.Test.YtnakmganodkliaaDoorLg
set_option linter.unusedVariables false
set_option linter.unusedSimpArgs false
namespace Go.Proofs.YtnakmganodkliaaDoorAm
open Go

/-! ### Places -/

/-- The places of a code where a region stands, or a range over a function, each with what comes behind. -/
def pC (f : Code → Bool) : Code → List Item → List (List Item)
  | .seq x y, k => pC f x (.code y :: k) ++ pC f y k
  | .cond _ x y, k => pC f x k ++ pC f y k
  | .block id c, k => pC f c (.inBlock id :: k)
  | .scope c, k => pC f c (.inScope c :: k)
  | .loop c, k => pC f c (.inLoop c :: k)
  | .region id o d, k => if f (.region id o d) then [.code (.region id o d) :: k] else []
  | .rangeFunc g p a b, k => if f (.rangeFunc g p a b) then [.code (.rangeFunc g p a b) :: k] else []
  | _, _ => []
def isRF : Code → Bool
  | .rangeFunc _ _ _ _ => true
  | _ => false
def isReg : Code → Bool
  | .region _ _ _ => true
  | _ => false
def FF (c : Code) (i : Nat) : List Item := (pC isRF c []).getD i []
def RR (c : Code) (i : Nat) : List Item := (pC isReg c []).getD i []
/-- Places by number: loops; from 100 ranges over functions; from 200 regions; from 300 behind a range; from 400 behind a region; from 500 a return out of a range, from 600 an exit out of one. -/
def KX (c : Code) (i : Nat) : List Item :=
  if i < 100 then KK c i else if i < 200 then FF c (i - 100) else if i < 300 then RR c (i - 200) else if i < 400 then (FF c (i - 300)).tail
  else if i < 500 then (RR c (i - 400)).tail else if i < 600 then .code .ret :: (FF c (i - 500)).tail else .code (.exit ((i - 600) % 20)) :: (FF c ((i - 600) / 20)).tail
def rfG : List Item → Operand
  | .code (.rangeFunc g _ _ _) :: _ => g
  | _ => .tmp 0
def rfP : List Item → Array Tmp
  | .code (.rangeFunc _ p _ _) :: _ => p
  | _ => #[]
def rfA : List Item → Code
  | .code (.rangeFunc _ _ a _) :: _ => a
  | _ => .skip
def rfB : List Item → Code
  | .code (.rangeFunc _ _ _ b) :: _ => b
  | _ => .skip
/-- Where a jump out of the i-th range leads. -/
def jumpN (i : Nat) : Code → Nat
  | .ret => 500 + i
  | .exit id => 600 + 20 * i + id
  | _ => 99

/-! ### Rounds, computed -/

/-- A round's end. -/
def endRnd (n : Nat) (pre : List Row) (ts : List D) (keep : Option Code → List Nat) (co : Option Code → List Co) (GN : St → Prop) (GJ : Code → St → Prop) (j : Option Code) (s : St) : Prop :=
  match optsOf (s.heap.take pre.length) with
  | some post => match shapeEq pre post with
    | some qs => andL qs (match normV n (keep j) (coeS (co j) ⟨ts, s.heap⟩) with
      | some s' => match j with
        | none => GN s'
        | some c => GJ c s'
      | none => Stuck 3001)
    | none => Stuck 3002
  | none => Stuck 3003

/-- What is left to show of a round. -/
def vcRnd (P : Program) (sp : Sp) (n : Nat) (ps : List Tmp) (assign body : Code) (keepA : List Nat) (K : Nat → List Item) (keep : Nat → List Nat) (co : Nat → List Co) (keepR : Option Code → List Nat) (coR : Option Code → List Co)
    (G : Nat → St → Prop) (GN : St → Prop) (GJ : Code → St → Prop) (f : Nat) (h : Hint) (x : List Value) (s : St) : Prop :=
  match rowsOf s.heap with
  | some pre => if n ≤ pre.length then
      vcX P sp pre.length (fun _ => [.beginRound, .code body]) (fun _ => keepA) (fun _ => []) (fun _ _ => Stuck 3000)
        (fun _ s1 => vcX P sp pre.length K keep co (endRnd n pre s.tmps keepR coR GN GJ) G f [.code body] h s1) 60 [.code assign, .beginRound, .code body] (.cut 0) ⟨putPs s.tmps ps x, s.heap⟩
    else Stuck 3004
  | none => Stuck 3005

theorem normV_same {n : Nat} {keep : List Nat} {co : List Co} {s s' : St} (h : normV n keep (coeS co s) = some s') : Same n s s' := by
  intro b X a hb R
  obtain ⟨X1, h1, R1⟩ := coeS_rel co R
  obtain ⟨X2, h2, R2⟩ := normV_rel R1 hb h
  exact ⟨X2, h1.trans h2, R2⟩

/-- What the walk of a round's body has to come to. -/
def RndEnd (P : Program) (T : Goal P) (n : Nat) (ps : Array Tmp) (assign body : Code) (k : List Item) (xs : List (List Value)) (s : St) (j : Option Code) (s' : St) : Prop :=
  Became s.heap s'.heap ∧ match j with
    | none => ∃ s'', Same n ⟨s.tmps, s'.heap⟩ s'' ∧ Rnds P T n ps assign body k xs s''
    | some c => Goes P T n (.code c :: k) ⟨s.tmps, s'.heap⟩

theorem rndEnd_of {P : Program} {T : Goal P} {n : Nat} {ps : Array Tmp} {assign body : Code} {k : List Item} {xs : List (List Value)} {s : St} {pre : List Row} {keepR : Option Code → List Nat} {coR : Option Code → List Co} {GN : St → Prop} {GJ : Code → St → Prop}
    (hpre : rowsOf s.heap = some pre) (hN : ∀ s, GN s → Rnds P T n ps assign body k xs s) (hJ : ∀ c s, GJ c s → Goes P T n (.code c :: k) s) (j : Option Code) (s' : St) (h : endRnd n pre s.tmps keepR coR GN GJ j s') : RndEnd P T n ps assign body k xs s j s' := by
  unfold endRnd at h
  split at h
  · rename_i post hp
    split at h
    · rename_i qs hs
      obtain ⟨hq, h⟩ := andL_iff h
      refine ⟨by rw [rowsOf_some hpre]; exact became_of_shape hp hs hq, ?_⟩
      split at h
      · rename_i s2 hn
        cases j with
        | none => exact ⟨s2, normV_same hn, hN s2 h⟩
        | some c => exact .coe _ (.normV hn (hJ c s2 h))
      · exact h.elim
    · exact h.elim
  · exact h.elim

/-- An inner loop of a round's body. -/
def BodyK (P : Program) (T : Goal P) (n : Nat) (ps : Array Tmp) (assign body : Code) (k : List Item) (xs : List (List Value)) (s : St) (nr : Nat) (K : Nat → List Item) (i : Nat) (s1 : St) : Prop :=
  ∀ l, Goes P (bodyGoal P l (RndEnd P T n ps assign body k xs s)) nr (K i) s1

theorem rnds_cons {P : Program} {T : Goal P} {n : Nat} {ps : Array Tmp} {assign body : Code} {k : List Item} {x : List Value} {xs : List (List Value)} {s : St} {sp : Sp} {keepA : List Nat} {K : Nat → List Item} {keep : Nat → List Nat} {co : Nat → List Co} {keepR : Option Code → List Nat} {coR : Option Code → List Co}
    {GN : St → Prop} {GJ : Code → St → Prop} {G : Nat → St → Prop} {f : Nat} {h : Hint} (hm : P.follows .mixedOrders = true) (hx : x.length = ps.size)
    (hN : ∀ s, GN s → Rnds P T n ps assign body k xs s) (hJ : ∀ c s, GJ c s → Goes P T n (.code c :: k) s) (hG : ∀ i s1, G i s1 → BodyK P T n ps assign body k xs s s.heap.length K i s1)
    (hv : vcRnd P sp n ps.toList assign body keepA K keep co keepR coR G GN GJ f h x s) : Rnds P T n ps assign body k (x :: xs) s := by
  unfold vcRnd at hv
  split at hv
  · rename_i pre hpre
    split at hv
    · rename_i hn
      have e := rowsOf_some hpre
      have hlen : s.heap.length = pre.length := by rw [e, List.length_map]
      refine ⟨hx, by rw [e]; exact allLive_map pre, by rw [hlen]; exact hn, fun l rc hr => ?_⟩
      rw [hlen]
      refine rnd_vc hm hr (fun s1 hs1 => ?_) hv
      exact body_vc hm (fun i s2 hg => by
        have := hG i s2 hg l
        rw [hlen] at this
        exact this) (fun j s' hj => rndEnd_of hpre hN hJ j s' hj) _ _ _ _ hs1
    · exact hv.elim
  · exact hv.elim

/-- The rounds that are still to come, of the i-th range over a function of a code. -/
structure RndsK (P : Program) (c : Code) (rs : List ResultVar) (how : List (Option Ty)) (n : Nat) (r : D × List (Option Row) × List Row) (i : Nat) (xs : List (List Value)) (s : St) : Prop where
  out : Rnds P (fnGoal P (Ends P n rs how r)) n (rfP (FF c i)) (rfA (FF c i)) (rfB (FF c i)) (FF c i).tail xs s

theorem rndsK_nil {P : Program} {c : Code} {rs : List ResultVar} {how : List (Option Ty)} {n : Nat} {r : D × List (Option Row) × List Row} {i : Nat} {s : St} (hi : i < 100) (h : GetsK P rs how (KX c) n r (300 + i) s) : RndsK P c rs how n r i [] s := by
  refine ⟨?_⟩
  have e : KX c (300 + i) = (FF c i).tail := by
    unfold KX
    rw [if_neg (by omega), if_neg (by omega), if_neg (by omega), if_pos (by omega), Nat.add_sub_cancel_left]
  have := h.out
  rw [e] at this
  exact this

theorem jump_ret {P : Program} {c : Code} {rs : List ResultVar} {how : List (Option Ty)} {n : Nat} {r : D × List (Option Row) × List Row} {i : Nat} (hi : i < 100) {s : St} (h : GetsK P rs how (KX c) n r (500 + i) s) : Goes P (fnGoal P (Ends P n rs how r)) n (.code .ret :: (FF c i).tail) s := by
  have e : KX c (500 + i) = .code .ret :: (FF c i).tail := by
    unfold KX
    rw [if_neg (by omega), if_neg (by omega), if_neg (by omega), if_neg (by omega), if_neg (by omega), if_pos (by omega), Nat.add_sub_cancel_left]
  have := h.out
  rw [e] at this
  exact this

theorem jump_exit {P : Program} {c : Code} {rs : List ResultVar} {how : List (Option Ty)} {n : Nat} {r : D × List (Option Row) × List Row} {i id : Nat} (hid : id < 20) {s : St} (h : GetsK P rs how (KX c) n r (600 + 20 * i + id) s) : Goes P (fnGoal P (Ends P n rs how r)) n (.code (.exit id) :: (FF c i).tail) s := by
  have e : KX c (600 + 20 * i + id) = .code (.exit id) :: (FF c i).tail := by
    unfold KX
    rw [if_neg (by omega), if_neg (by omega), if_neg (by omega), if_neg (by omega), if_neg (by omega), if_neg (by omega), show (600 + 20 * i + id - 600) % 20 = id by omega, show (600 + 20 * i + id - 600) / 20 = i by omega]
  have := h.out
  rw [e] at this
  exact this

/-- What a jump out of the i-th range has to come to. -/
def jumpG (P : Program) (rs : List ResultVar) (how : List (Option Ty)) (K : Nat → List Item) (n : Nat) (r : D × List (Option Row) × List Row) (i : Nat) : Code → St → Prop
  | .ret, s => GetsK P rs how K n r (500 + i) s
  | .exit id, s => id < 20 ∧ GetsK P rs how K n r (600 + 20 * i + id) s
  | _, _ => False

theorem jump_goes {P : Program} {c : Code} {rs : List ResultVar} {how : List (Option Ty)} {n : Nat} {r : D × List (Option Row) × List Row} {i : Nat} (hi : i < 100) (cd : Code) (s : St) (h : jumpG P rs how (KX c) n r i cd s) : Goes P (fnGoal P (Ends P n rs how r)) n (.code cd :: (FF c i).tail) s := by
  cases cd with
  | ret => exact jump_ret hi h
  | exit id => exact jump_exit h.1 h.2
  | _ => exact h.elim

theorem rndsK_cons {P : Program} {c : Code} {rs : List ResultVar} {how : List (Option Ty)} {n : Nat} {r : D × List (Option Row) × List Row} {i : Nat} {x : List Value} {xs : List (List Value)} {s : St} (sp : Sp) (keepA : List Nat) (keepR : Option Code → List Nat) (coR : Option Code → List Co) (f : Nat) (h : Hint)
    {V : (St → Prop) → (Code → St → Prop) → Prop} (hm : P.follows .mixedOrders = true) (hi : i < 100) (hx : x.length = (rfP (FF c i)).size)
    (hv : ∀ GN GJ, vcRnd P sp n (rfP (FF c i)).toList (rfA (FF c i)) (rfB (FF c i)) keepA (fun _ => []) (fun _ => []) (fun _ => []) keepR coR (fun _ _ => False) GN GJ f h x s = V GN GJ)
    (hV : V (RndsK P c rs how n r i xs) (jumpG P rs how (KX c) n r i)) : RndsK P c rs how n r i (x :: xs) s := by
  rw [← hv] at hV
  exact ⟨rnds_cons hm hx (fun _ h => h.out) (jump_goes hi) (fun _ _ h => h.elim) hV⟩

/-- **A range over a function**, at its place. -/
theorem getsK_range {P : Program} {c : Code} {rs : List ResultVar} {how : List (Option Ty)} {n : Nat} {r : D × List (Option Row) × List Row} {i : Nat} {s : St} {gf : FuncId} {caps : List D} {xs : List (List Value)} (hi : i < 100)
    (hc : isRF ((match FF c i with | .code x :: _ => x | _ => .skip)) = true) (hg : evalD s.tmps (rfG (FF c i)) = .fn gf caps) (hcl : renDs (pos []) caps = caps ∧ inB [] (refsDs caps) = true) (it : IterP P gf caps xs) (hR : RndsK P c rs how n r i xs s) : GetsK P rs how (KX c) n r (100 + i) s := by
  refine ⟨?_⟩
  have e : KX c (100 + i) = FF c i := by
    unfold KX
    rw [if_neg (by omega), if_pos (by omega), Nat.add_sub_cancel_left]
  rw [e]
  have hR := hR.out
  cases hff : FF c i with
  | nil => rw [hff] at hc; cases hc
  | cons it0 k =>
    rw [hff] at hc hg hR
    cases it0 with
    | code x =>
      cases x with
      | rangeFunc g p a b => exact goes_range rfl rfl hg hcl it hR
      | _ => cases hc
    | _ => cases hc

/-! ### Iterators -/

/-- An iterator comes to its end, when so many values have been yielded. -/
def itGoal (P : Program) (J : Nat → (Nat → Prop) → World → Prop) (Jx : World → Prop) (N i : Nat) : Goal P where
  ro := none
  nd := true
  Q := fun b fr cs m => ∀ U, J i U b.w → (∀ k, b.S k → k < b.w.heap.size ∧ ¬ U k) → ∃ w' a' todo, Steps P m (lone { fr.atR a' todo with mode := .returning } cs w') ∧ a'.defers = [] ∧ ((∃ U', J N U' w') ∨ Jx w')
  back := by
    intro b fr cs m m' hs h U h1 h2
    obtain ⟨w', a', todo, h3, h4⟩ := h U h1 h2
    exact ⟨w', a', todo, Steps.head hs h3, h4⟩

/-- It has been told to stop. -/
def itStop (P : Program) (Jx : World → Prop) : Goal P where
  ro := none
  nd := true
  Q := fun b fr cs m => Jx b.w → ∃ w' a' todo, Steps P m (lone { fr.atR a' todo with mode := .returning } cs w') ∧ a'.defers = [] ∧ Jx w'
  back := by
    intro b fr cs m m' hs h h1
    obtain ⟨w', a', todo, h3, h4⟩ := h h1
    exact ⟨w', a', todo, Steps.head hs h3, h4⟩

theorem grew_of {b : Beg} {X : Ctx} (M : Mem b X) (h0 : b.n = 0) : Grew b.w X.w :=
  ⟨M.os, M.tape, M.output, M.size, fun k hk => M.keep k hk (by rintro ⟨id, l, h1, _⟩; omega)⟩

section
variable {P : Program} {J : Nat → (Nat → Prop) → World → Prop} {Jx : World → Prop} {N : Nat} {s : St} {k : List Item}

theorem it_end (hJg : ∀ i U w w', Grew w w' → J i U w → J i U w') (hk : k = [] ∨ ∃ r, k = .code .ret :: r) : Goes P (itGoal P J Jx N N) 0 k s := by
  intro b X a fr cs hr hb hd R U h1 h2
  refine ⟨X.w, a, k, .one ?_, hd rfl, .inl ⟨U, hJg _ _ _ _ (grew_of R.mem hb) h1⟩⟩
  rcases hk with rfl | ⟨r, rfl⟩
  · exact stepR_end hr
  · exact stepR_ret hr

theorem it_stop (hJg : ∀ w w', Grew w w' → Jx w → Jx w') (hk : k = [] ∨ ∃ r, k = .code .ret :: r) : Goes P (itStop P Jx) 0 k s := by
  intro b X a fr cs hr hb hd R h1
  refine ⟨X.w, a, k, .one ?_, hd rfl, hJg _ _ (grew_of R.mem hb) h1⟩
  rcases hk with rfl | ⟨r, rfl⟩
  · exact stepR_end hr
  · exact stepR_ret hr

def noRow (H : Heap) : Bool := H.all fun s => match s with
  | .live _ => false
  | _ => true

theorem noRow_get {H : Heap} (h : noRow H = true) (id : Nat) : hget H id = none := by
  cases hs : slot H id with
  | free => exact hget_free hs
  | dead => unfold hget; rw [hs]
  | live r =>
    exfalso
    have hi : id < H.length := lt_of_slot (by rw [hs]; simp)
    have := List.all_eq_true.1 h H[id] (List.getElem_mem hi)
    unfold slot at hs
    rw [List.getD_eq_getElem?_getD, List.getElem?_eq_getElem hi] at hs
    have hs : H[id] = .live r := hs
    rw [hs] at this
    cases this

/-- The memory, seen anew behind a round. -/
theorem mem_anew {b : Beg} {X : Ctx} (M : Mem b X) (hb : b.n = 0) (hno : noRow X.H = true) {U : Nat → Prop} {w' : World} (hU : ∀ k, U k → k < b.w.heap.size) (hbU : ∀ k, b.S k → ¬ U k) (hk : Kept U X.w w') :
    Mem ⟨w', X.ρ, X.S, 0⟩ ⟨X.ρ, X.H, X.S, w'⟩ ∧ Le X ⟨X.ρ, X.H, X.S, w'⟩ ∧ (∀ k, X.S k → k < X.w.heap.size ∧ ¬ U k) := by
  have hSU : ∀ k, X.S k → k < X.w.heap.size ∧ ¬ U k := by
    intro k h
    refine ⟨M.stab k h, fun hu => ?_⟩
    rcases M.sup k h with h1 | h1 | ⟨id, l, h1, _⟩
    · exact hbU k h1 hu
    · have := hU k hu
      omega
    · omega
  have hle : Le X ⟨X.ρ, X.H, X.S, w'⟩ := by
    refine ⟨fun k h => ⟨h, hk.keep k (hSU k h).1 (hSU k h).2⟩, fun id => ?_⟩
    unfold Pair
    show match slot X.H id, slot X.H id with
      | .free, _ => True
      | _, .free => False
      | _, .dead => True
      | .dead, .live _ => False
      | .live r, .live r' => Comp r r' ∧ X.ρ id = X.ρ id
    cases slot X.H id with
    | free => trivial
    | dead => trivial
    | live r => exact ⟨Comp.refl r, rfl⟩
  have hn : ∀ id, hget X.H id = none := noRow_get hno
  refine ⟨⟨rfl, rfl, rfl, Nat.le_refl _, fun i j p q h => absurd (hn i) h, fun id r h => (by rw [show hget X.H id = none from hn id] at h; cases h), fun id p h => absurd (hn id) h,
    fun k h => Nat.lt_of_lt_of_le (hSU k h).1 hk.size, fun _ _ _ => rfl, fun id p h => absurd (hn id) h, fun id h => absurd h (Nat.not_lt_zero id), fun _ h => h, fun _ h => .inl h, M.glob.le hle.st⟩, hle, hSU⟩

theorem map_v_inj : ∀ {a b : List Value}, a.map D.v = b.map D.v → a = b
  | [], [], _ => rfl
  | [], _ :: _, h => by simp at h
  | _ :: _, [], h => by simp at h
  | x :: a, y :: b, h => by
    simp only [List.map_cons, List.cons.injEq, D.v.injEq] at h
    rw [h.1, map_v_inj h.2]

theorem relDs_map_eval {X : Ctx} {s : St} {a : Act} {b : Beg} (M : Mem b X) (hT : RelDs X s.tmps a.tmps.toList) : ∀ (l : List Operand) {x : List Value}, l.map (evalD s.tmps) = x.map .v → l.map a.eval = x
  | [], x, h => by
    cases x with
    | nil => rfl
    | cons y x => simp at h
  | o :: l, x, h => by
    cases x with
    | nil => simp at h
    | cons y x =>
      simp only [List.map_cons, List.cons.injEq] at h
      have h1 := evalD_rel M hT o
      rw [h.1] at h1
      simp only [RelD] at h1
      simp only [List.map_cons]
      rw [h1, relDs_map_eval M hT l h.2]

/-- **A region with a call of yield**: the operations ahead, the round, the operations behind. -/
theorem it_yield {ops : Array Oper} {id j l i : Nat} {s1 : St} {sp : Sp} {ps : List Prop} {o : Oper} {c : Call} {f : Operand} {d : Tmp} {x : List Value} {xs : List (List Value)} {s2 : Bool → St} {qs : Bool → List Prop} {N : Nat}
    (hJU : ∀ i U w, J i U w → ∀ k, U k → k < w.heap.size) (hJg : ∀ i U w w', Grew w w' → J i U w → J i U w')
    (hY : ∀ i x U w, xs[i]? = some x → J i U w → Yields P l x w fun c w' => Kept U w w' ∧ if c then ∃ U', J (i + 1) U' w' ∧ ∀ k, U' k → U k ∨ w.heap.size ≤ k else Jx w')
    (hnd : noDefer ops = true) (hlt : j < ops.size)
    (h1 : runD P ops ((decs sp [] 0 s.heap.length ops.toList).take j) ⟨s.tmps, s.heap ++ List.replicate (total ops.toList) .free⟩ = some (s1, ps)) (hps : ∀ p ∈ ps, p)
    (ho : ops[j]? = some o) (hop : o.op = .call c) (hcal : c.callee = .value f) (hdst : o.dst = some d) (hgd : o.guard = none)
    (hf : evalD s1.tmps f = .v (.func (.yield l) #[] #[])) (hargs : c.args.toList.map (evalD s1.tmps) = x.map .v) (hx : xs[i]? = some x) (hno : noRow s1.heap = true)
    (h2 : ∀ t, runD P ops ((decs sp [] 0 s.heap.length ops.toList).drop (j + 1)) ⟨s1.tmps.set d (.v (.bool t)), s1.heap⟩ = some (s2 t, qs t)) (hqs : ∀ t, ∀ q ∈ qs t, q)
    (hgo : Goes P (itGoal P J Jx N (i + 1)) 0 k (s2 true)) (hstop : Goes P (itStop P Jx) 0 k (s2 false)) : Goes P (itGoal P J Jx N i) 0 (.code (.region id ops false) :: k) s := by
  intro b X a fr cs hr hb hd R U hJ hSU
  have hdl : (decs sp [] 0 s.heap.length ops.toList).length = ops.size := by rw [decs_length]; simp
  have hidx : ∀ (p q : Nat), (((List.range ops.size).drop p).take q).map (fun i => ops[i]?) = (((decs sp [] 0 s.heap.length ops.toList).drop p).take q).map (fun d => some d.o) := by
    intro p q
    have h0 : (List.range ops.size).map (fun i => ops[i]?) = (decs sp [] 0 s.heap.length ops.toList).map (fun d => some d.o) := by
      apply List.ext_getElem?
      intro k
      rw [List.getElem?_map, List.getElem?_map]
      rcases Nat.lt_or_ge k ops.size with hk | hk
      · rw [List.getElem?_range hk]
        have hk2 : k < (decs sp [] 0 s.heap.length ops.toList).length := by rw [hdl]; exact hk
        have h1 := (decs_get sp [] ops.toList 0 _ k (List.getElem?_eq_getElem hk2)).1
        rw [Array.getElem?_toList] at h1
        rw [List.getElem?_eq_getElem hk2]
        simp only [Option.map_some, h1]
      · rw [List.getElem?_eq_none (by simpa using hk), List.getElem?_eq_none (by rw [hdl]; exact hk)]
        rfl
    rw [List.map_take, List.map_drop, List.map_take, List.map_drop, h0]
  -- ahead
  obtain ⟨M0, L0⟩ := mem_ext R.mem (total ops.toList)
  have hnid : ∀ dd ∈ decs sp [] 0 s.heap.length ops.toList, b.n ≤ dd.nid := fun dd _ => by rw [hb]; exact Nat.zero_le _
  let Q1 : Exit → Act → World → Prop := fun e a' w' => e = .normal ∧ a'.defers = a.defers ∧ ∃ X', X'.w = w' ∧ Mem b X' ∧ RelDs X' s1.tmps a'.tmps.toList ∧ X'.H = s1.heap
  have hw1 : wpOps P ops Q1 ((List.range ops.size).take j) a X.w := by
    refine runD_wp (X := ⟨X.ρ, X.H ++ List.replicate (total ops.toList) .free, X.S, X.w⟩) ((decs sp [] 0 s.heap.length ops.toList).take j) _ M0 (L0.ds R.tmps) (by show X.H ++ _ = _; rw [R.heap]) (fun dd h => hnid dd (List.mem_of_mem_take h)) h1 hps ?_ (fun X' a' M' hT' hH' hd' _ => ⟨rfl, hd', X', rfl, M', hT', hH'⟩)
    have := hidx 0 j
    rwa [List.drop_zero, List.drop_zero] at this
  have hsplit : List.range ops.size = (List.range ops.size).take j ++ (j :: (List.range ops.size).drop (j + 1)) := by
    have : (List.range ops.size).drop j = j :: (List.range ops.size).drop (j + 1) := by
      rw [List.drop_eq_getElem_cons (by simpa using hlt)]
      simp
    rw [← this, List.take_append_drop]
  obtain ⟨a1, w1, ⟨_, hd1, X1, rfl, M1, hT1, hH1⟩, hs1⟩ := ops_part hnd (fun e a w h => h.1) (j :: (List.range ops.size).drop (j + 1)) _ a X.w hw1 fr k cs
  rw [← hsplit] at hs1
  -- the call of yield
  have hG1 := grew_of M1 hb
  have hJ1 : J i U X1.w := hJg _ _ _ _ hG1 hJ
  obtain ⟨ff, tm, asg, bd, hy, hrun⟩ := hY i x U X1.w hx hJ1
  have hwant : Region.wanted o (yielded ops a1.tmps) = true := by unfold Region.wanted; rw [hgd]
  have hg := stepGR_op (P := P) (b := fr) (a := a1) (k := k) (cs := cs) (w := X1.w) (rest := (List.range ops.size).drop (j + 1)) ho hwant
  rw [Oper.semAt_eq _ _ _ (not_defer hnd ho)] at hg
  have hfv := evalD_rel M1 hT1 f
  rw [hf] at hfv
  simp only [RelD] at hfv
  have hav := relDs_map_eval M1 hT1 c.args.toList hargs
  have hex : (execOp a1.eval o).run P X1.w = .ok (.round l ff tm asg bd) X1.w := by
    simp only [execOp, hop, resolve, hcal, hfv, Deferred.ofValue]
    rw [Sem.run_bind]
    simp only [Sem.run_pure, invoke, Result.andThen]
    have : c.args.map a1.eval = x.toArray := by
      apply Array.ext'
      simpa using hav
    rw [this]
    simpa using hy
  have hstep : step P (lone (fr.atR a1 (.inRegion ops (j :: (List.range ops.size).drop (j + 1)) :: k)) cs X1.w) = .next (lone (Frame.round l ff tm asg bd .normal) (fr.atR a1 (.inRegion ops (j :: (List.range ops.size).drop (j + 1)) :: k) :: cs) X1.w) :=
    step_lone_go (by rw [hg]; simp [stepG.apply, hex])
  obtain ⟨t, w2, ⟨hkept, hR⟩, hs2⟩ := hrun (fr.atR a1 (.inRegion ops (j :: (List.range ops.size).drop (j + 1)) :: k)) cs
  have hfin : (fr.atR a1 (.inRegion ops (j :: (List.range ops.size).drop (j + 1)) :: k)).finish (.bool t) = fr.atR (a1.put o.dst (.bool t)) (.inRegion ops ((List.range ops.size).drop (j + 1)) :: k) := by
    rw [Frame.finish_atR, ho]; rfl
  rw [hfin] at hs2
  -- the memory behind it
  obtain ⟨M2, L2, hSU2⟩ := mem_anew M1 hb (by rw [hH1]; exact hno) (fun k hk => hJU i U b.w hJ k hk) (fun k h => (hSU k h).2) hkept
  have hT2 : RelDs ⟨X1.ρ, X1.H, X1.S, w2⟩ (s1.tmps.set d (.v (.bool t))) (a1.put o.dst (.bool t)).tmps.toList := by
    rw [hdst]
    exact putD_rel (L2.ds hT1) (some d) (by simp only [RelD])
  let Q2 : Exit → Act → World → Prop := fun e a' w' => e = .normal ∧ a'.defers = (a1.put o.dst (.bool t)).defers ∧ ∃ X', X'.w = w' ∧ Mem ⟨w2, X1.ρ, X1.S, 0⟩ X' ∧ RelDs X' (s2 t).tmps a'.tmps.toList ∧ X'.H = (s2 t).heap
  have hw2 : wpOps P ops Q2 ((List.range ops.size).drop (j + 1)) (a1.put o.dst (.bool t)) w2 := by
    refine runD_wp (X := ⟨X1.ρ, X1.H, X1.S, w2⟩) ((decs sp [] 0 s.heap.length ops.toList).drop (j + 1)) _ (s := ⟨s1.tmps.set d (.v (.bool t)), s1.heap⟩) M2 hT2 hH1 (fun dd _ => Nat.zero_le _) (h2 t) (hqs t) ?_ (fun X' a' M' hT' hH' hd' _ => ⟨rfl, hd', X', rfl, M', hT', hH'⟩)
    have := hidx (j + 1) (ops.size - (j + 1))
    rwa [List.take_of_length_le (by simp), List.take_of_length_le (by simp [hdl])] at this
  obtain ⟨a3, w3, ⟨_, hd3, X3, rfl, M3, hT3, hH3⟩, hs3⟩ := ops_steps hnd (fun e a w h => h.1) _ _ _ hw2 fr k cs
  have hd3' : a3.defers = [] := by rw [hd3, put_defers, hd1]; exact hd rfl
  have hstab : ∀ k, X1.S k → k < w2.heap.size := fun k h => M2.stab k h
  have R3 : Rel ⟨w2, X1.ρ, X1.S, 0⟩ X3 (s2 t) a3 := ⟨M3, hT3, hH3, Nat.zero_le _, hstab, [], by rw [hd3']; rfl, List.nodup_nil, fun D h => by simp at h⟩
  have hall := Steps.trans (Steps.trans (Steps.head (stepR_region (id := id)) hs1) (Steps.head hstep hs2)) hs3
  cases t with
  | true =>
    obtain ⟨U', hJ', hU'⟩ := hR
    obtain ⟨w', a', todo, h3, h4⟩ := hgo _ X3 a3 fr cs hr rfl (fun _ => hd3') R3 U' hJ' (fun k h => ⟨hstab k h, fun hu => by
      rcases hU' k hu with h5 | h5
      · exact (hSU2 k h).2 h5
      · have := (hSU2 k h).1
        omega⟩)
    exact ⟨w', a', todo, Steps.trans hall h3, h4⟩
  | false =>
    obtain ⟨w', a', todo, h3, h4, h5⟩ := hstop _ X3 a3 fr cs hr rfl (fun _ => hd3') R3 hR
    exact ⟨w', a', todo, Steps.trans hall h3, h4, .inr h5⟩

end

/-- **An iterator's contract, from its body.** -/
theorem iter_of {P : Program} {g : FuncId} {fn : Func} {c : Code} {caps : List D} {xs : List (List Value)} (hf : P.funcs[g]? = some fn) (hname : (fn.name == "runtime.NumGoroutine") = false) (hb : fn.body = some c) (hres : fn.results = #[])
    (h : ∀ (l : Nat) (J : Nat → (Nat → Prop) → World → Prop) (Jx : World → Prop), (∀ i U w, J i U w → ∀ k, U k → k < w.heap.size) → (∀ i U w w', Grew w w' → J i U w → J i U w') → (∀ w w', Grew w w' → Jx w → Jx w') →
      (∀ i x U w, xs[i]? = some x → J i U w → Yields P l x w fun c w' => Kept U w w' ∧ if c then ∃ U', J (i + 1) U' w' ∧ ∀ k, U' k → U k ∨ w.heap.size ≤ k else Jx w') →
      Goes P (itGoal P J Jx xs.length 0) 0 [.code c] (st0 fn.ntmps [] (.v (.func (.yield l) #[] #[]) :: caps))) : IterP P g caps xs := by
  refine ⟨⟨fn, hf, hname, by rw [hb]; rfl⟩, ?_⟩
  intro l lb S J Jx h1 h2 h3 h4 U w hJ hS hG hcaps cs
  have M : Mem ⟨w, fun _ => none, S, 0⟩ (bareX S w) := by
    refine ⟨rfl, rfl, rfl, Nat.le_refl _, ?_, ?_, ?_, fun k hk => (hS k hk).1, fun _ _ _ => rfl, ?_, fun _ _ _ => rfl, fun _ h => h, fun _ h => .inl h, hG⟩
    · intro i j p q hi
      exact absurd rfl hi
    · intro id r h
      cases h
    · intro id p h
      exact absurd rfl h
    · intro id p h
      exact absurd rfl h
  have hlen := relDs_length hcaps
  have eargs : (#[.func (.yield l) #[] #[]] ++ lb.toArray : Array Value) = (Value.func (.yield l) #[] #[] :: lb).toArray := by
    apply Array.ext'
    simp
  rw [eargs]
  let a0 : Act := { tmps := (Value.func (.yield l) #[] #[] :: lb).toArray ++ Array.replicate (fn.ntmps - (Value.func (.yield l) #[] #[] :: lb).toArray.size) undef, defers := [] }
  have R : Rel ⟨w, fun _ => none, S, 0⟩ (bareX S w) (st0 fn.ntmps [] (.v (.func (.yield l) #[] #[]) :: caps)) a0 := by
    refine ⟨M, ?_, rfl, Nat.zero_le _, fun k hk => (hS k hk).1, [], rfl, List.nodup_nil, fun D h => by simp at h⟩
    simp only [st0, a0, Array.toList_append, Array.toList_replicate, List.size_toArray, List.length_cons, hlen]
    rw [relDs_append]
    refine ⟨_, _, rfl, ?_, relDs_undef _ _⟩
    simp only [RelDs, RelD]
    exact ⟨_, _, rfl, rfl, hcaps⟩
  let b0 : Frame := { (default : Frame) with fn := g, kind := .normal, roundOf := none }
  have henter : Frame.enter P g (Value.func (.yield l) #[] #[] :: lb).toArray .normal = b0.atR a0 [.code c] := by
    simp [Frame.enter, Frame.atR, hf, hb, b0, a0]
  obtain ⟨w', a', todo, h5, h6, h7⟩ := h l J Jx h1 h2 h3 h4 _ _ a0 b0 cs rfl rfl (fun _ => rfl) R U hJ hS
  rw [← henter] at h5
  refine ⟨.returned (.tuple #[]), w', _, ⟨⟨_, rfl⟩, h7⟩, h5, rfl, rfl, h6, rfl, fn, hf, ?_⟩
  have e0 : fn.results.toList = [] := by rw [hres]
  refine (results_run (fn := fn) (vs := []) ?_).trans rfl
  rw [e0]
  rfl

/-! ### Iterators, computed -/

theorem goes_vc {P : Program} {T : Goal P} {n : Nat} {K : Nat → List Item} {k : List Item} {s : St} (sp : Sp) (keep : Nat → List Nat) (co : Nat → List Co) (f : Nat) (h : Hint) {V : (Nat → St → Prop) → (Option Code → St → Prop) → Prop} {E : Option Code → St → Prop} (hm : P.follows .mixedOrders = true)
    (h0 : ∀ s, E none s → Goes P T n [] s) (h1 : ∀ k s, E (some .ret) s → Goes P T n (.code .ret :: k) s) (h2 : ∀ id k s, exitTo id k = none → E (some (.exit id)) s → Goes P T n (.code (.exit id) :: k) s)
    (hv : ∀ G E, vcX P sp n K keep co E G f k h s = V G E) (hV : V (fun i s => Goes P T n (K i) s) E) : Goes P T n k s := by
  rw [← hv] at hV
  exact vcX_sound hm (fun _ _ h => h) h0 h1 h2 f k h s hV

/-- At an iterator's end: all has been yielded. -/
def itE (i N : Nat) (j : Option Code) (_ : St) : Prop := match j with
  | some (.exit _) => False
  | _ => i = N
def stopE (j : Option Code) (_ : St) : Prop := match j with
  | some (.exit _) => False
  | _ => True

/-- One stretch of an iterator's walk. -/
theorem it_vc {P : Program} {J : Nat → (Nat → Prop) → World → Prop} {Jx : World → Prop} {N i : Nat} {K : Nat → List Item} {k : List Item} {s : St} (sp : Sp) (keep : Nat → List Nat) (co : Nat → List Co) (f : Nat) (h : Hint) {V : (Nat → St → Prop) → (Option Code → St → Prop) → Prop} (hm : P.follows .mixedOrders = true)
    (hJg : ∀ i U w w', Grew w w' → J i U w → J i U w')
    (hv : ∀ G E, vcX P sp 0 K keep co E G f k h s = V G E) (hV : V (fun i' s => Goes P (itGoal P J Jx N i) 0 (K i') s) (itE i N)) : Goes P (itGoal P J Jx N i) 0 k s :=
  goes_vc sp keep co f h hm (fun s h => by have h : i = N := h; subst h; exact it_end hJg (.inl rfl)) (fun k s h => by have h : i = N := h; subst h; exact it_end hJg (.inr ⟨k, rfl⟩)) (fun id k s _ h => h.elim) hv hV

def regO : List Item → Array Oper
  | .code (.region _ o _) :: _ => o
  | _ => #[]

/-- A region with a call of yield, computed. -/
def vcY (P : Program) (sp : Sp) (ops : Array Oper) (j l : Nat) (x : List Value) (s : St) (K2 : Bool → St → Prop) : Prop :=
  if noDefer ops ∧ j < ops.size then
    match runD P ops ((decs sp [] 0 s.heap.length ops.toList).take j) ⟨s.tmps, s.heap ++ List.replicate (total ops.toList) .free⟩ with
    | some (s1, ps) => andL ps (match ops[j]? with
      | some o => match o.op, o.dst, o.guard with
        | .call c, some d, none => match c.callee with
          | .value f => if noRow s1.heap then
                evalD s1.tmps f = .v (.func (.yield l) #[] #[]) ∧ c.args.toList.map (evalD s1.tmps) = x.map .v ∧
                (match runD P ops ((decs sp [] 0 s.heap.length ops.toList).drop (j + 1)) ⟨s1.tmps.set d (.v (.bool true)), s1.heap⟩ with
                  | some (s2, qs) => andL qs (K2 true s2)
                  | none => Stuck 4001) ∧
                (match runD P ops ((decs sp [] 0 s.heap.length ops.toList).drop (j + 1)) ⟨s1.tmps.set d (.v (.bool false)), s1.heap⟩ with
                  | some (s2, qs) => andL qs (K2 false s2)
                  | none => Stuck 4002)
              else Stuck 4003
          | _ => Stuck 4005
        | _, _, _ => Stuck 4006
      | none => Stuck 4007)
    | none => Stuck 4008
  else Stuck 4009

/-- The yields of all iterators' rounds keep J. -/
def Gives (P : Program) (l : Nat) (J : Nat → (Nat → Prop) → World → Prop) (Jx : World → Prop) (xs : List (List Value)) : Prop :=
  ∀ i x U w, xs[i]? = some x → J i U w → Yields P l x w fun c w' => Kept U w w' ∧ if c then ∃ U', J (i + 1) U' w' ∧ ∀ k, U' k → U k ∨ w.heap.size ≤ k else Jx w'

theorem it_round {P : Program} {J : Nat → (Nat → Prop) → World → Prop} {Jx : World → Prop} {N : Nat} {s : St} {k : List Item} {l i j : Nat} {x : List Value} {xs : List (List Value)} {sp : Sp} {K2 : Bool → St → Prop}
    (hJU : ∀ i U w, J i U w → ∀ k, U k → k < w.heap.size) (hJg : ∀ i U w w', Grew w w' → J i U w → J i U w') (hY : Gives P l J Jx xs) (hx : xs[i]? = some x)
    {id : Nat} {ops : Array Oper} (hv : vcY P sp ops j l x s K2) (hgo : ∀ s2, K2 true s2 → Goes P (itGoal P J Jx N (i + 1)) 0 k s2) (hstop : ∀ s2, K2 false s2 → Goes P (itStop P Jx) 0 k s2) : Goes P (itGoal P J Jx N i) 0 (.code (.region id ops false) :: k) s := by
  unfold vcY at hv
  split at hv
  case isFalse => exact hv.elim
  rename_i hnd
  split at hv
  · rename_i s1 ps h1
    obtain ⟨hps, hv⟩ := andL_iff hv
    split at hv
    · rename_i o ho
      split at hv
      · rename_i c d hop hdst hgd
        split at hv
        · rename_i f hcal
          split at hv
          · rename_i hno
            obtain ⟨hf, hargs, ht, hfl⟩ := hv
            split at ht
            · rename_i s2 qs h2
              obtain ⟨hq2, hk2⟩ := andL_iff ht
              split at hfl
              · rename_i s3 rs h3
                obtain ⟨hq3, hk3⟩ := andL_iff hfl
                refine it_yield (s2 := fun t => if t then s2 else s3) (qs := fun t => if t then qs else rs) hJU hJg hY hnd.1 hnd.2 h1 hps ho hop hcal hdst hgd hf hargs hx hno ?_ ?_ (hgo s2 hk2) (hstop s3 hk3)
                · intro t
                  cases t with
                  | true => exact h2
                  | false => exact h3
                · intro t
                  cases t with
                  | true => exact hq2
                  | false => exact hq3
              · exact hfl.elim
            · exact ht.elim
          · exact hv.elim
        · exact hv.elim
      · exact hv.elim
    · exact hv.elim
  · exact hv.elim

/-- A place where a region with a call of yield stands; then each way. -/
theorem it_round_vc {P : Program} {J : Nat → (Nat → Prop) → World → Prop} {Jx : World → Prop} {N : Nat} {s : St} {c : Code} {l i r : Nat} {x : List Value} {xs : List (List Value)} (sp : Sp) (keep : Nat → List Nat) (co : Nat → List Co) (f j : Nat) (h1 h2 : Hint)
    {V : (Nat → St → Prop) → (Option Code → St → Prop) → (Nat → St → Prop) → (Option Code → St → Prop) → Prop} (hm : P.follows .mixedOrders = true)
    (hJU : ∀ i U w, J i U w → ∀ k, U k → k < w.heap.size) (hJg : ∀ i U w w', Grew w w' → J i U w → J i U w') (hJxg : ∀ w w', Grew w w' → Jx w → Jx w') (hY : Gives P l J Jx xs) (hx : xs[i]? = some x)
    (hr : ∃ id, RR c r = .code (.region id (regO (RR c r)) false) :: (RR c r).tail)
    (hv : ∀ G E G' E', vcY P sp (regO (RR c r)) j l x s (fun t s2 => if t then vcX P sp 0 (KX c) keep co E G f (RR c r).tail h1 s2 else vcX P sp 0 (KX c) keep co E' G' f (RR c r).tail h2 s2) = V G E G' E')
    (hV : V (fun i' s => Goes P (itGoal P J Jx N (i + 1)) 0 (KX c i') s) (itE (i + 1) N) (fun i' s => Goes P (itStop P Jx) 0 (KX c i') s) stopE) : Goes P (itGoal P J Jx N i) 0 (RR c r) s := by
  rw [← hv] at hV
  obtain ⟨id, hr⟩ := hr
  rw [hr]
  refine it_round hJU hJg hY hx hV (fun s2 h => ?_) (fun s2 h => ?_)
  · exact vcX_sound hm (fun _ _ h => h) (fun s h => by have h : i + 1 = N := h; subst h; exact it_end hJg (.inl rfl)) (fun k s h => by have h : i + 1 = N := h; subst h; exact it_end hJg (.inr ⟨k, rfl⟩)) (fun id k s _ h => h.elim) f _ h1 s2 h
  · exact vcX_sound hm (fun _ _ h => h) (fun s h => it_stop hJxg (.inl rfl)) (fun k s h => it_stop hJxg (.inr ⟨k, rfl⟩)) (fun id k s _ h => h.elim) f _ h2 s2 h

end Go.Proofs.YtnakmganodkliaaDoorAm
