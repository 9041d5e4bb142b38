/- What abstract values say of the machine's memory; contracts of calls. -/
import Derived.Test.YtnakmganodkliaaAm0
set_option linter.unusedVariables false
set_option linter.unusedSimpArgs false
namespace Go.Proofs.YtnakmganodkliaaAm
open Go

def Reps {α : Type} (R : α → List Value → Prop) : List α → List Value → Prop
  | [], us => us = []
  | x :: xs, us => ∃ u1 u2, us = u1 ++ u2 ∧ R x u1 ∧ Reps R xs u2

/-- The cells from A on hold these values, in blocks that nobody writes. -/
def At (S : Nat → Prop) (w : World) (A : Option Addr) (us : List Value) : Prop :=
  ∀ j u, us[j]? = some u → ∃ a, A = some a ∧ S a.block ∧ w.cell? (a.add j) = some u

def RelE (S : Nat → Prop) (w : World) : (t : Ty) → t.El → List Value → Prop
  | .int k, n, us => us = [.int k n]
  | .bool, b, us => us = [.bool b]
  | .str, s, us => us = [.string s]
  | .sl t, xs, us => ∃ A c us', us = [.slice A xs.length c] ∧ xs.length ≤ c ∧ (A = none → c = 0) ∧ Reps (RelE S w t) xs us' ∧ At S w A us'
  | .prod a b, x, us => ∃ u1 u2, us = u1 ++ u2 ∧ RelE S w a x.1 u1 ∧ RelE S w b x.2 u2
  | .unit, _, us => us = []

/-- Where a row lies: its block, from which cell on, and how many cells the block has. -/
structure Loc where
  b : Nat
  o : Nat
  n : Nat

/-- Where the call's own rows lie, which there are, which blocks nobody writes, and the memory. -/
structure Ctx where
  ρ : Nat → Option Loc
  H : Heap
  S : Nat → Prop
  w : World

mutual
def RelD (X : Ctx) : D → Value → Prop
  | .v x, u => u = x
  | .sl nn cl t xs, u => ∃ A c us, u = .slice A xs.length c ∧ xs.length ≤ c ∧ (A = none → c = 0) ∧ (nn = true → A ≠ none) ∧ (cl = true → c = xs.length) ∧ Reps (RelE X.S X.w t) xs us ∧ At X.S X.w A us
  | .arr t xs, u => ∃ us, u = .agg us.toArray ∧ Reps (RelE X.S X.w t) xs us
  | .own id off len cap, u => match slot X.H id with
    | .free => False
    | .dead => ∃ A c, u = .slice A len c ∧ ∀ k, cap = some k → c = k
    | .live (.box _ _) => False
    | .live (.data _ t xs) => off + len ≤ xs.length ∧ ∃ A c, u = .slice A len c ∧ len ≤ c ∧ (A = none → c = 0) ∧ (∀ k, cap = some k → c = k) ∧ (cap = none → xs.length ≤ off + c) ∧
        (c = 0 ∨ ∃ l, X.ρ id = some l ∧ A = some ⟨l.b, l.o + off * t.size, none⟩ ∧ l.o + (off + c) * t.size ≤ l.n)
  | .ptr id i off, u => match slot X.H id with
    | .free => False
    | .dead => ∃ p, u = .pointer p
    | .live r => ∃ l, X.ρ id = some l ∧ u = .pointer (some ⟨l.b, l.o + (match r with | .box _ _ => off | .data _ t _ => i * t.size + off), none⟩)
  | .bsl id len _, u => match slot X.H id with
    | .free => False
    | .dead => ∃ A, u = .slice A len len
    | .live (.data _ _ _) => False
    | .live (.box _ _) => ∃ l, X.ρ id = some l ∧ u = .slice (some ⟨l.b, l.o, none⟩) len len
  | .rptr cs, u => ∃ a us, u = .pointer (some a) ∧ RelDs X cs us ∧ At X.S X.w (some a) us
  | .agg cs, u => ∃ us, u = .agg us.toArray ∧ RelDs X cs us
  | .fn f cs, u => ∃ us, u = .func (.func f) #[] us.toArray ∧ RelDs X cs us
  | .tup cs, u => ∃ us, u = .tuple us.toArray ∧ RelDs X cs us
  | .top, _ => True
def RelDs (X : Ctx) : List D → List Value → Prop
  | [], us => us = []
  | d :: ds, us => ∃ u us', us = u :: us' ∧ RelD X d u ∧ RelDs X ds us'
end

/-- What a row says of the block that it lies in. -/
def RelRow (X : Ctx) (r : Row) : Option Loc → Prop
  | none => match r with
    | .box _ _ => False
    | .data _ _ xs => xs = []
  | some l => ∃ cs ty, X.w.heap[l.b]? = some (.cells cs ty (0, 0)) ∧ cs.size = l.n ∧ match r with
    | .box _ ds => l.o = 0 ∧ ∃ us, cs = us.toArray ∧ RelDs X ds us ∧ ∀ u, u ∈ us → u.oneCell' = true
    | .data e t xs => ty = e ∧ ∃ us, Reps (RelE X.S X.w t) xs us ∧ (∀ u, u ∈ us → u.oneCell' = true) ∧ l.o + us.length ≤ l.n ∧ ∀ j u, us[j]? = some u → cs[l.o + j]? = some u

/-- How a call began: the memory, where the rows lay that were handed to it, the blocks that nobody writes, how many rows. -/
structure Beg where
  w : World
  ρ : Nat → Option Loc
  S : Nat → Prop
  n : Nat

def Beg.B (b : Beg) (k : Nat) : Prop := ∃ id l, id < b.n ∧ b.ρ id = some l ∧ l.b = k

/-- What holds of the memory between a call's operations. -/
structure Mem (b : Beg) (X : Ctx) : Prop where
  os : X.w.os = b.w.os
  tape : X.w.tape = b.w.tape
  output : X.w.output = b.w.output
  size : b.w.heap.size ≤ X.w.heap.size
  inj : ∀ i j p q, hget X.H i ≠ none → hget X.H j ≠ none → X.ρ i = some p → X.ρ j = some q → p.b = q.b → i = j
  rows : ∀ id r, hget X.H id = some r → RelRow X r (X.ρ id)
  sep : ∀ id p, hget X.H id ≠ none → X.ρ id = some p → ¬ X.S p.b
  stab : ∀ k, X.S k → k < X.w.heap.size
  keep : ∀ k, k < b.w.heap.size → ¬ b.B k → X.w.heap[k]? = b.w.heap[k]?
  fresh : ∀ id p, hget X.H id ≠ none → X.ρ id = some p → b.w.heap.size ≤ p.b ∨ b.B p.b
  old : ∀ id, id < b.n → hget X.H id ≠ none → X.ρ id = b.ρ id
  sub : ∀ k, b.S k → X.S k
  sup : ∀ k, X.S k → b.S k ∨ b.w.heap.size ≤ k ∨ b.B k

/-- **The contract of a call**: with these rows at hand (numbered from 0) and these arguments it answers this value, leaves the rows so, and lays these new ones (numbered behind). -/
structure Con (P : Program) (f : FuncId) (pre : List Row) (args : List D) (val : D) (post : List (Option Row)) (allocs : List Row) : Prop where
  fn : ∃ fn, P.funcs[f]? = some fn ∧ (fn.name == "runtime.NumGoroutine") = false ∧ fn.body.isNone = false
  run : ∀ (w : World) (ρ : Nat → Option Loc) (S : Nat → Prop) (vs : List Value),
    Mem ⟨w, ρ, S, pre.length⟩ ⟨ρ, pre.map .live, S, w⟩ → RelDs ⟨ρ, pre.map .live, S, w⟩ args vs →
    Calls P f vs.toArray w fun e w' => ∃ v ρ' S', e = .returned v ∧
      Mem ⟨w, ρ, S, pre.length⟩ ⟨ρ', post.map slotOf ++ allocs.map .live, S', w'⟩ ∧
      RelD ⟨ρ', post.map slotOf ++ allocs.map .live, S', w'⟩ val v

end Go.Proofs.YtnakmganodkliaaAm
