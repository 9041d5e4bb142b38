/- The reference's Turn, Symmetries and Canon: what may be called. -/
import Derived.Test.YtnakmganodkliaaGrV
set_option linter.unusedVariables false
set_option linter.unusedSimpArgs false
set_option maxRecDepth 100000
namespace Go.Proofs.YtnakmganodkliaaAm
open Go

/-- Which bar the reference lays: by rows. -/
def slotQ (w p q : Int) : Bool × Int := (decide (mnI p q / w = mxI p q / w), mnI p q)

theorem slot_nbQ {h w p q : Int} (w1 : 1 ≤ w) (n : Nb h w p q ∨ Nb h w q p) : slotQ w p q = slotP w p q := by
  have key : ∀ {p q}, Nb h w p q → slotQ w p q = slotP w p q ∧ slotQ w q p = slotP w q p := by
    intro p q n
    have : p < q := by rcases nb_cases w1 n with ⟨a, _⟩ | ⟨a, _⟩ <;> omega
    have e1 : mnI p q = p := by unfold mnI; rw [if_neg (by omega)]
    have e2 : mxI p q = q := by unfold mxI; rw [if_pos (by omega)]
    have e3 : mnI q p = p := by unfold mnI; rw [if_pos (by omega)]
    have e4 : mxI q p = q := by unfold mxI; rw [if_neg (by omega)]
    have e5 : decide (p / w = q / w) = decide (q / w = p / w) := by
      by_cases h : p / w = q / w
      · rw [decide_eq_true h, decide_eq_true h.symm]
      · rw [decide_eq_false h, decide_eq_false (fun h' => h h'.symm)]
    rw [slot_comm w q p, slot_nb w1 n]
    unfold slotQ
    rw [e1, e2, e3, e4, e5]
    exact ⟨rfl, rfl⟩
  rcases n with n | n
  · exact (key n).1
  · exact (key n).2

def symB (g : Gr) (k : Int) : Bool := ((turnG g k).2 == 0) && decide ((turnG g k).1 = g)

def symFrom (g : Gr) : Nat → Int → List Int
  | 0, _ => []
  | m + 1, k => (if symB g k then [k] else []) ++ symFrom g m (k + 1)

def symsF (g : Gr) : List Int := symFrom g 8 0

def spW : Sp := fun f args rd => match f, args with
  | 94, [.agg [.v (.int _ h), .v (.int _ w), .own i1 _ n1 c1, .own i2 _ n2 c2, .own i3 _ n3 c3], .v (.int _ p), .v (.int _ q)] => match rd i1, rd i2, rd i3 with
    | some (.data 4 .bool B), some (.data 4 .bool R), some (.data 4 .bool L) =>
      some { f := 94, pre := [.data 4 .bool B, .data 4 .bool R, .data 4 .bool L],
             args := [.agg [.v (.int .i64 h), .v (.int .i64 w), .own 0 0 n1 c1, .own 1 0 n2 c2, .own 2 0 n3 c3], .v (.int .i64 p), .v (.int .i64 q)],
             val := .agg [.v (.int .i64 h), .v (.int .i64 w), .own 0 0 n1 c1, .own 1 0 n2 c2, .own 2 0 n3 c3],
             post := [some (.data 4 .bool B), some (.data 4 .bool (setR (slotQ w p q).1 R (slotQ w p q).2)), some (.data 4 .bool (setR (!(slotQ w p q).1) L (slotQ w p q).2))],
             cap := [i1, i2, i3] }
    | _, _, _ => none
  | 54, [.agg [.v (.int _ h), .v (.int _ w), b, r, l], .v (.int _ k)] => withW rd h w b r l fun g ls => some { f := 54, args := [g.d, .v (.int .i64 k)], val := .tup [gOwn (turnG g k).1, .v (.int .i64 (turnG g k).2)], allocs := gRows (turnG g k).1, lent := ls }
  | 92, [.v (.int _ k), .ptr a _ _] => match rd a with
    | some (.box _ [.v (.int _ h), .v (.int _ w), b, r, l]) => withW rd h w b r l fun g ls => some { f := 92, args := [.v (.int .i64 k), .rptr [.v (.int .i64 g.h), .v (.int .i64 g.w), .sl false false .bool g.B, .sl false false .bool g.R, .sl false false .bool g.L]], val := .v (.bool (symB g k)), lent := a :: ls }
    | _ => none
  | 52, [.agg [.v (.int _ h), .v (.int _ w), b, r, l]] => withW rd h w b r l fun g ls => some { f := 52, args := [g.d], val := .own 0 0 (symsF g).length none, allocs := [.data 3 (.int .i64) (symsF g)], lent := ls }
  | 55, [.agg [.v (.int _ h), .v (.int _ w), b, r, l]] => withW rd h w b r l fun g ls => some { f := 55, args := [g.d], val := .own 0 0 (symsF g).length none, allocs := [.data 3 (.int .i64) (symsF g)], lent := ls }
  | 122, [a, b] => with2 .bool rd a b fun A B ls => some { f := 122, args := [slB A, slB B], val := .v (.int .i64 (cmpL A B)), lent := ls }
  | 95, [.agg [.v (.int _ h), .v (.int _ w), b, r, l], .agg [.v (.int _ h'), .v (.int _ w'), b', r', l']] => withW rd h w b r l fun g ls => withW rd h' w' b' r' l' fun g' ls' => some { f := 95, args := [g.d, g'.d], val := .v (.bool (lessF g g')), lent := ls ++ ls' }
  | 56, [.agg [.v (.int _ h), .v (.int _ w), b, r, l]] => withW rd h w b r l fun g ls => some { f := 56, args := [g.d], val := .tup [gOwn (canonG g).1, .v (.int .i64 (canonG g).2.1), .v (.int .i64 (canonG g).2.2)], allocs := gRows (canonG g).1, lent := ls }
  | f, args => spC f args rd

theorem sym_len (g : Gr) : ∀ (m : Nat) (k : Int), (symFrom g m k).length ≤ m
  | 0, _ => by simp [symFrom]
  | m + 1, k => by
    have := sym_len g m (k + 1)
    simp only [symFrom, List.length_append]
    split <;> simp <;> omega

theorem turnG_small {g : Gr} (hs : g.small) (k : Int) : (turnG g k).1.small := by
  unfold turnG
  split
  · rename_i hk
    split
    · rename_i hc
      exact right_small (turn_right (right_iff.1 hc) (isB_iff.1 hk))
    · exact ⟨by simp, by simp, by simp⟩
  · exact ⟨by simp, by simp, by simp⟩


end Go.Proofs.YtnakmganodkliaaAm
