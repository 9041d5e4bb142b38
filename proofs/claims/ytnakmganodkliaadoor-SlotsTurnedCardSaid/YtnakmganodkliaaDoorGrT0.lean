/- Turn: what may be called; the closure that lays a bar; the contract of Turn. -/
import Derived.Test.YtnakmganodkliaaDoorTuB
set_option linter.unusedVariables false
set_option linter.unusedSimpArgs false
set_option maxRecDepth 100000
namespace Go.Proofs.YtnakmganodkliaaDoorAm
open Go

/-- What Turn answers. -/
def turnG (g : Gr) (k : Int) : Gr × Int := if isB k then if checkF g = 0 then (turnF g k, 0) else (⟨0, 0, [], [], []⟩, checkF g) else (⟨0, 0, [], [], []⟩, 60)

def gRows (t : Gr) : List Row := [.data 4 .bool t.B, .data 4 .bool t.R, .data 4 .bool t.L]
def gOwn (t : Gr) : D := grOwn 0 t.h t.w t.B.length t.R.length t.L.length (fun _ => none)

/-- The list that is there, whole (that it is taken whole is a side condition then). -/
def wholeB (rd : Nat → Option Row) : D → Option (List Bool)
  | .sl _ _ .bool xs => some xs
  | .v (.slice none 0 0) => some []
  | .own id _ _ _ => match rd id with
    | some (.data _ .bool xs) => some xs
    | _ => none
  | _ => none

def withW (rd : Nat → Option Row) (h w : Int) (b r l : D) (k : Gr → List Nat → Option Ann) : Option Ann :=
  match wholeB rd b, wholeB rd r, wholeB rd l with
  | some B, some R, some L => k ⟨h, w, B, R, L⟩ (refsDs [b, r, l])
  | _, _, _ => none

def spT : Sp := fun f args rd => match f, args with
  | 87, [.v (.int _ i), .v (.int _ j), .ptr a _ _, .ptr b _ _, .ptr c _ _, .ptr d _ _] => match rd a, rd b, rd c, rd d with
    | some (.box _ [.v (.int _ h), .v (.int _ w), bb, rr, ll]), some (.box _ [.v (.int _ k)]), some (.box _ [.v (.int _ w')]), some (.box _ [.v (.int _ H), .v (.int _ W), .own i1 _ n1 c1, .own i2 _ n2 c2, .own i3 _ n3 c3]) =>
      match rd i1, rd i2, rd i3 with
      | some (.data 4 .bool B), some (.data 4 .bool R), some (.data 4 .bool L) => withG rd h w bb rr ll fun g ls =>
        some { f := 87, pre := [.box 46 [.v (.int .i64 H), .v (.int .i64 W), .own 1 0 n1 c1, .own 2 0 n2 c2, .own 3 0 n3 c3], .data 4 .bool B, .data 4 .bool R, .data 4 .bool L],
               args := [.v (.int .i64 i), .v (.int .i64 j), .rptr [.v (.int .i64 g.h), .v (.int .i64 g.w), .sl false false .bool g.B, .sl false false .bool g.R, .sl false false .bool g.L], .rptr [.v (.int .i64 k)], .rptr [.v (.int .i64 w')], .ptr 0 0 0], val := .tup [],
               post := [some (.box 46 [.v (.int .i64 H), .v (.int .i64 W), .own 1 0 n1 c1, .own 2 0 n2 c2, .own 3 0 n3 c3]), some (.data 4 .bool B), some (.data 4 .bool (setR (slotP w' (placeF g.h g.w i k) (placeF g.h g.w j k)).1 R (slotP w' (placeF g.h g.w i k) (placeF g.h g.w j k)).2)), some (.data 4 .bool (setR (!(slotP w' (placeF g.h g.w i k) (placeF g.h g.w j k)).1) L (slotP w' (placeF g.h g.w i k) (placeF g.h g.w j k)).2))],
               cap := [d, i1, i2, i3], lent := a :: b :: c :: ls }
      | _, _, _ => none
    | _, _, _, _ => none
  | 51, [.agg [.v (.int _ h), .v (.int _ w), b, r, l], .v (.int _ k)] => withW rd h w b r l fun g ls => some { f := 51, args := [g.d, .v (.int .i64 k)], val := .tup [gOwn (turnG g k).1, .v (.int .i64 (turnG g k).2)], allocs := gRows (turnG g k).1, lent := ls }
  | 44, [.agg [.v (.int _ h), .v (.int _ w), b, r, l]] => withW rd h w b r l fun g ls => some { f := 44, args := [g.d], val := .v (.int .i64 (checkF g)), lent := ls }
  | 43, [.agg [.v (.int _ h), .v (.int _ w), b, r, l], .agg [.v (.int _ h'), .v (.int _ w'), b', r', l']] => withW rd h w b r l fun g ls => withW rd h' w' b' r' l' fun g' ls' => some { f := 43, args := [g.d, g'.d], val := .v (.bool (decide (g = g'))), lent := ls ++ ls' }
  | f, args => match sp f args rd with
    | some a => some a
    | none => spG true f args rd

noncomputable def t90 : Code := (Tryd.f87.body).getD .skip
noncomputable def t49 : Code := (Tryd.f51.body).getD .skip
theorem nil_own {X : Ctx} {e : TypeId} {ty : Ty} {id : Nat} (h : slot X.H id = .live (.data e ty [])) : RelD X (.own id 0 0 none) (.slice none 0 0) := by
  simp only [RelD]
  rw [h]
  exact ⟨by simp, none, 0, rfl, by simp, by simp, by simp, by simp, .inl rfl⟩

/-- A grid without lists, taken as one of empty lists of the call's own. -/
theorem con_nilG {P : Program} {f : FuncId} {args : List D} {h w e : Value} (c : Con P f [] args (.tup [.agg [.v h, .v w, .v (.slice none 0 0), .v (.slice none 0 0), .v (.slice none 0 0)], .v e]) [] []) :
    Con P f [] args (.tup [.agg [.v h, .v w, .own 0 0 0 none, .own 1 0 0 none, .own 2 0 0 none], .v e]) [] [.data 4 .bool [], .data 4 .bool [], .data 4 .bool []] := by
  refine ⟨c.fn, fun W ρ S vs M hargs => (c.run W ρ S vs M hargs).mono ?_⟩
  rintro ex w' ⟨v, ρ', S', h1, h2, h3⟩
  let X0 : Ctx := ⟨ρ', [], S', w'⟩
  have M1 : Mem ⟨W, ρ, S, 0⟩ (coeX X0 4 .bool) := coeX_mem (X := X0) h2 (Nat.zero_le _) 4 .bool
  have M2 := coeX_mem M1 (Nat.zero_le _) 4 .bool
  have M3 := coeX_mem M2 (Nat.zero_le _) 4 .bool
  refine ⟨v, _, S', h1, M3, ?_⟩
  simp only [RelD, RelDs] at h3
  obtain ⟨us, rfl, u, us', rfl, ⟨us2, rfl, a1, b1, rfl, rfl, a2, b2, rfl, rfl, a3, b3, rfl, rfl, a4, b4, rfl, rfl, a5, b5, rfl, rfl, rfl⟩, a6, b6, rfl, rfl, rfl⟩ := h3
  rw [RelD]
  refine ⟨_, rfl, ?_⟩
  rw [RelDs]
  refine ⟨_, _, rfl, ?_, ?_⟩
  · rw [RelD]
    refine ⟨_, rfl, ?_⟩
    rw [RelDs]; refine ⟨_, _, rfl, by rw [RelD], ?_⟩
    rw [RelDs]; refine ⟨_, _, rfl, by rw [RelD], ?_⟩
    rw [RelDs]; refine ⟨_, _, rfl, nil_own (e := 4) (ty := .bool) rfl, ?_⟩
    rw [RelDs]; refine ⟨_, _, rfl, nil_own (e := 4) (ty := .bool) rfl, ?_⟩
    rw [RelDs]; refine ⟨_, _, rfl, nil_own (e := 4) (ty := .bool) rfl, ?_⟩
    rw [RelDs]
  · rw [RelDs]; refine ⟨_, _, rfl, by rw [RelD], ?_⟩
    rw [RelDs]

/-- A grid of lists of the call's own, the room behind them forgotten. -/
theorem con_forgetG {P : Program} {f : FuncId} {args : List D} {h w e : Value} {B R L : List Bool} {N : Nat} (hB : B.length ≤ N) (hR : R.length ≤ N) (hL : L.length ≤ N) {a b k : Nat} (c : Con P f [] args (.tup [.agg [.v h, .v w, .own 0 0 a (some N), .own 1 0 b (some N), .own 2 0 k (some N)], .v e]) [] [.data 4 .bool B, .data 4 .bool R, .data 4 .bool L]) :
    Con P f [] args (.tup [.agg [.v h, .v w, .own 0 0 a none, .own 1 0 b none, .own 2 0 k none], .v e]) [] [.data 4 .bool B, .data 4 .bool R, .data 4 .bool L] := by
  refine ⟨c.fn, fun W ρ S vs M hargs => (c.run W ρ S vs M hargs).mono ?_⟩
  rintro ex w' ⟨v, ρ', S', h1, h2, h3⟩
  refine ⟨v, ρ', S', h1, h2, ?_⟩
  rw [RelD] at h3 ⊢
  obtain ⟨us, hu, h3⟩ := h3
  rw [RelDs] at h3
  obtain ⟨u, us', e1, h4, h5⟩ := h3
  rw [RelD] at h4
  obtain ⟨us2, hu2, h4⟩ := h4
  rw [RelDs] at h4
  obtain ⟨x1, y1, q1, r1, h4⟩ := h4
  rw [RelDs] at h4
  obtain ⟨x2, y2, q2, r2, h4⟩ := h4
  rw [RelDs] at h4
  obtain ⟨x3, y3, q3, r3, h4⟩ := h4
  rw [RelDs] at h4
  obtain ⟨x4, y4, q4, r4, h4⟩ := h4
  rw [RelDs] at h4
  obtain ⟨x5, y5, q5, r5, h4⟩ := h4
  refine ⟨us, hu, ?_⟩
  rw [RelDs]
  refine ⟨u, us', e1, ?_, h5⟩
  rw [RelD]
  refine ⟨us2, hu2, ?_⟩
  rw [RelDs]; refine ⟨x1, y1, q1, r1, ?_⟩
  rw [RelDs]; refine ⟨x2, y2, q2, r2, ?_⟩
  rw [RelDs]; refine ⟨x3, y3, q3, own_forget (e := 4) (t := .bool) (xs := B) rfl (by omega) r3, ?_⟩
  rw [RelDs]; refine ⟨x4, y4, q4, own_forget (e := 4) (t := .bool) (xs := R) rfl (by omega) r4, ?_⟩
  rw [RelDs]; exact ⟨x5, y5, q5, own_forget (e := 4) (t := .bool) (xs := L) rfl (by omega) r5, h4⟩


end Go.Proofs.YtnakmganodkliaaDoorAm
