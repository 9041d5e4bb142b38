/- Canon: what may be called; the contracts of the order and of the search; the law on canons. -/
import Derived.Test.YtnakmganodkliaaGrU
import Derived.Test.YtnakmganodkliaaTuC
set_option linter.unusedVariables false
set_option linter.unusedSimpArgs false
set_option maxRecDepth 100000
namespace Go.Proofs.YtnakmganodkliaaAm
open Go

/-- What Canon answers. -/
def canonG (g : Gr) : Gr × Int × Int := if checkF g = 0 then ((canonF g).1, (canonF g).2, 0) else (⟨0, 0, [], [], []⟩, 0, checkF g)

def spC : Sp := fun f args rd => match f, args with
  | 121, [a, b] => with2 .bool rd a b fun A B ls => some { f := 121, args := [slB A, slB B], val := .v (.int .i64 (cmpL A B)), lent := ls }
  | 93, [.agg [.v (.int _ h), .v (.int _ w), b, r, l], .agg [.v (.int _ h'), .v (.int _ w'), b', r', l']] => withW rd h w b r l fun g ls => withW rd h' w' b' r' l' fun g' ls' => some { f := 93, args := [g.d, g'.d], val := .v (.bool (lessF g g')), lent := ls ++ ls' }
  | 53, [.agg [.v (.int _ h), .v (.int _ w), b, r, l]] => withW rd h w b r l fun g ls => some { f := 53, args := [g.d], val := .tup [gOwn (canonG g).1, .v (.int .i64 (canonG g).2.1), .v (.int .i64 (canonG g).2.2)], allocs := gRows (canonG g).1, lent := ls }
  | f, args => spT f args rd

theorem relDs_vs {X Y : Ctx} : ∀ {vs us : List Value}, RelDs X (vs.map .v) us → RelDs Y (vs.map .v) us
  | [], us, h => by simpa only [List.map_nil, RelDs] using h
  | v :: vs, us, h => by
    simp only [List.map_cons, RelDs, RelD] at h ⊢
    obtain ⟨u, us', h1, h2, h3⟩ := h
    exact ⟨u, us', h1, h2, relDs_vs h3⟩

/-- A grid without lists, taken as one of empty lists of the call's own. -/
theorem con_nilGs {P : Program} {f : FuncId} {args : List D} {h w : Value} {vs : List Value} (c : Con P f [] args (.tup (.agg [.v h, .v w, .v (.slice none 0 0), .v (.slice none 0 0), .v (.slice none 0 0)] :: vs.map .v)) [] []) :
    Con P f [] args (.tup (.agg [.v h, .v w, .own 0 0 0 none, .own 1 0 0 none, .own 2 0 0 none] :: vs.map .v)) [] [.data 4 .bool [], .data 4 .bool [], .data 4 .bool []] := by
  refine ⟨c.fn, fun W ρ S vs M hargs => (c.run W ρ S vs M hargs).mono ?_⟩
  rintro ex w' ⟨v, ρ', S', h1, h2, h3⟩
  let X0 : Ctx := ⟨ρ', [], S', w'⟩
  have M1 : Mem ⟨W, ρ, S, 0⟩ (coeX X0 4 .bool) := coeX_mem (X := X0) h2 (Nat.zero_le _) 4 .bool
  have M2 := coeX_mem M1 (Nat.zero_le _) 4 .bool
  have M3 := coeX_mem M2 (Nat.zero_le _) 4 .bool
  refine ⟨v, _, S', h1, M3, ?_⟩
  rw [RelD] at h3
  obtain ⟨us, rfl, h3⟩ := h3
  rw [RelDs] at h3
  obtain ⟨u, us', rfl, h4, h5⟩ := h3
  simp only [RelD, RelDs] at h4
  obtain ⟨us2, rfl, a1, b1, rfl, rfl, a2, b2, rfl, rfl, a3, b3, rfl, rfl, a4, b4, rfl, rfl, a5, b5, rfl, rfl, rfl⟩ := h4
  rw [RelD]
  refine ⟨_, rfl, ?_⟩
  rw [RelDs]
  refine ⟨_, _, rfl, ?_, relDs_vs h5⟩
  rw [RelD]
  refine ⟨_, rfl, ?_⟩
  rw [RelDs]; refine ⟨_, _, rfl, by rw [RelD], ?_⟩
  rw [RelDs]; refine ⟨_, _, rfl, by rw [RelD], ?_⟩
  rw [RelDs]; refine ⟨_, _, rfl, nil_own (e := 4) (ty := .bool) rfl, ?_⟩
  rw [RelDs]; refine ⟨_, _, rfl, nil_own (e := 4) (ty := .bool) rfl, ?_⟩
  rw [RelDs]; refine ⟨_, _, rfl, nil_own (e := 4) (ty := .bool) rfl, ?_⟩
  rw [RelDs]

theorem cmp_drop {A B : List Bool} {i : Int} (h0 : 0 ≤ i) (h1 : i < A.length) (h2 : A.length = B.length) :
    cmpL (A.drop i.toNat) (B.drop i.toNat) = if A.getD i.toNat false && !B.getD i.toNat false then -1 else if B.getD i.toNat false && !A.getD i.toNat false then 1 else cmpL (A.drop (i + 1).toNat) (B.drop (i + 1).toNat) := by
  rw [drop_at false h0 h1, drop_at (xs := B) false h0 (by omega)]
  rfl


end Go.Proofs.YtnakmganodkliaaAm
