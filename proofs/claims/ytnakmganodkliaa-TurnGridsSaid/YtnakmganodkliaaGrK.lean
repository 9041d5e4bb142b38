/- The contract of Parts. -/
import Derived.Test.YtnakmganodkliaaGrJ
import Derived.Test.YtnakmganodkliaaPaT
set_option linter.unusedVariables false
set_option linter.unusedSimpArgs false
set_option maxRecDepth 100000
namespace Go.Proofs.YtnakmganodkliaaAm
open Go

open Classical in
/-- The parts of a grid and how many there are. -/
noncomputable def partsF (g : Gr) : List Int × Int := if h : checkF g = 0 ∧ ∃ pn : List Int × Int, IsParts g pn.1 pn.2 then Classical.choose h.2 else ([], 0)

theorem partsF_eq {g : Gr} {p : List Int} {n : Int} (hc : checkF g = 0) (h : IsParts g p n) : partsF g = (p, n) := by
  have hx : ∃ pn : List Int × Int, IsParts g pn.1 pn.2 := ⟨(p, n), h⟩
  unfold partsF
  rw [dif_pos ⟨hc, hx⟩]
  obtain ⟨a, b⟩ := parts_unique (Classical.choose_spec hx) h
  exact Prod.ext a b

theorem getD_pAt {p : List Int} {i : Int} (h : i.toNat < p.length) : p.getD i.toNat 0 = pAt p i := by
  unfold pAt
  rw [List.getD_eq_getElem?_getD, List.getD_eq_getElem?_getD, List.getElem?_eq_getElem h]
  rfl

/-- What holds while a part is filled: which cells are still to be looked at. -/
structure Todo (g : Gr) (p : List Int) (n i : Int) (o l : Nat) (ts : List Int) : Prop where
  cur : Cur g p n i
  ol : o + l = ts.length
  td : ∀ x ∈ ts.drop o, openF g x = true ∧ pAt p x = n
  fr : ∀ x, openF g x = true → pAt p x = n → x ∈ ts.drop o ∨ ∀ y ∈ nearF g x, pAt p y = n

/-- And while the neighbours of a cell are looked at. -/
structure Look (g : Gr) (p : List Int) (n i : Int) (o l : Nat) (ts : List Int) (at' : Int) (L : List Int) : Prop where
  cur : Cur g p n i
  ol : o + l = ts.length
  td : ∀ x ∈ ts.drop o, openF g x = true ∧ pAt p x = n
  oat : openF g at' = true
  pat : pAt p at' = n
  near : ∀ y ∈ L, y ∈ nearF g at'
  fr : ∀ x, openF g x = true → pAt p x = n → x ∈ ts.drop o ∨ (x = at' ∧ ∀ y ∈ nearF g x, y ∈ L ∨ pAt p y = n) ∨ ∀ y ∈ nearF g x, pAt p y = n

theorem Look.fin {g : Gr} {p : List Int} {n i : Int} {o l : Nat} {ts : List Int} {a : Int} (K : Look g p n i o l ts a []) : Todo g p n i o l ts := by
  refine ⟨K.cur, K.ol, K.td, fun x hx hp => ?_⟩
  rcases K.fr x hx hp with h | ⟨_, h⟩ | h
  · exact .inl h
  · exact .inr fun y hy => (h y hy).resolve_left (by simp)
  · exact .inr h

theorem Todo.pop {g : Gr} {p : List Int} {n i : Int} {o l : Nat} {ts : List Int} (T : Todo g p n i o l ts) (hl : 0 < l) : Look g p n i (o + 1) (l - 1) ts (ts.getD o 0) (nearF g (ts.getD o 0)) := by
  have ho : o < ts.length := by have := T.ol; omega
  have hd : ts.drop o = ts.getD o 0 :: ts.drop (o + 1) := by
    rw [List.drop_eq_getElem_cons ho, List.getD_eq_getElem?_getD, List.getElem?_eq_getElem ho]
    rfl
  have h0 := T.td (ts.getD o 0) (by rw [hd]; exact List.mem_cons_self)
  refine ⟨T.cur, by have := T.ol; omega, fun x hx => T.td x (by rw [hd]; exact List.mem_cons_of_mem _ hx), h0.1, h0.2, fun y hy => hy, fun x hx hp => ?_⟩
  rcases T.fr x hx hp with h | h
  · rw [hd] at h
    rcases List.mem_cons.1 h with h | h
    · exact .inr (.inl ⟨h, fun y hy => .inl (by rw [← h]; exact hy)⟩)
    · exact .inl h
  · exact .inr (.inr h)

theorem Look.skip {g : Gr} {p : List Int} {n i : Int} {o l : Nat} {ts : List Int} {a y : Int} {L : List Int} (K : Look g p n i o l ts a (y :: L)) (hp : 0 ≤ pAt p y) : Look g p n i o l ts a L := by
  have hy := K.near y List.mem_cons_self
  have e := K.cur.beside K.oat K.pat hy hp
  refine ⟨K.cur, K.ol, K.td, K.oat, K.pat, fun z hz => K.near z (List.mem_cons_of_mem _ hz), fun x hx hpx => ?_⟩
  rcases K.fr x hx hpx with h | ⟨h1, h⟩ | h
  · exact .inl h
  · refine .inr (.inl ⟨h1, fun z hz => ?_⟩)
    rcases h z hz with h | h
    · rcases List.mem_cons.1 h with h | h
      · rw [h]; exact .inr e
      · exact .inl h
    · exact .inr h
  · exact .inr (.inr h)

theorem Look.mark {g : Gr} {p : List Int} {n i : Int} {o l : Nat} {ts : List Int} {a y : Int} {L : List Int} (K : Look g p n i o l ts a (y :: L)) (hp : pAt p y < 0) : Look g (p.set y.toNat n) n i 0 (l + 1) (ts.drop o ++ [y]) a L := by
  have hy := K.near y List.mem_cons_self
  have oy := (near_back hy).2.1
  obtain ⟨_, y0, y1, _⟩ := open_in oy
  have yl : y < p.length := by rw [K.cur.len]; exact y1
  have e : ∀ x, openF g x = true → pAt (p.set y.toNat n) x = if x = y then n else pAt p x := fun x hx => pAt_set (open_in hx).2.1 y0 yl
  have n0 := K.cur.n0
  have keep : ∀ x, openF g x = true → pAt p x = n → pAt (p.set y.toNat n) x = n := by
    intro x hx h
    rw [e x hx]
    split
    · rfl
    · exact h
  refine ⟨K.cur.mark K.oat K.pat hy hp, by have := K.ol; simp; omega, fun x hx => ?_, K.oat, keep _ K.oat K.pat, fun z hz => K.near z (List.mem_cons_of_mem _ hz), fun x hx hpx => ?_⟩
  · rw [List.drop_zero] at hx
    rcases List.mem_append.1 hx with h | h
    · obtain ⟨h1, h2⟩ := K.td x h
      exact ⟨h1, keep x h1 h2⟩
    · rw [List.mem_singleton.1 h]
      exact ⟨oy, by rw [e y oy, if_pos rfl]⟩
  · rw [List.drop_zero]
    by_cases hxy : x = y
    · exact .inl (by rw [hxy]; simp)
    · rw [e x hx, if_neg hxy] at hpx
      rcases K.fr x hx hpx with h | ⟨h1, h⟩ | h
      · exact .inl (List.mem_append_left _ h)
      · refine .inr (.inl ⟨h1, fun z hz => ?_⟩)
        have oz := (near_back hz).2.1
        rcases h z hz with h | h
        · rcases List.mem_cons.1 h with h | h
          · rw [h]; exact .inr (by rw [e y oy, if_pos rfl])
          · exact .inl h
        · exact .inr (keep z oz h)
      · exact .inr (.inr fun z hz => keep z (near_back hz).2.1 (h z hz))

theorem e50_2 (g : Gr) (N M : Nat) (n i : Int) (r : D × List (Option Row) × List Row) (hN : (N : Int) = g.h * g.w) (hM : M ≤ 1000)
    (IH : ∀ (o l : Nat) (p ts : List Int), Todo g p n i o l ts → 2 * unl p + l ≤ M → GetsK Try.prog Try.f50.results.toList [none, none] (KK g50) 0 r 1 (stOf 79 [1,4,5,7,22,23] [.ptr 0 0 0, .own 1 0 N none, .v (.int .i64 n), .own 2 o l none, .v (.int .i64 N), .v (.int .i64 i)] [.live (.box 35 [.v (.int .i64 g.h), .v (.int .i64 g.w), .sl false false .bool g.B, .sl false false .bool g.R, .sl false false .bool g.L]), .live (.data 3 (.int .i64) p), .live (.data 3 (.int .i64) ts)])) (L : List Int) (hL : L.length ≤ 4) (a : Int) (m : Nat) :
    ∀ (k : Int) (o l : Nat) (p ts : List Int), 0 ≤ k → k + m = L.length → Look g p n i o l ts a (L.drop k.toNat) → 2 * unl p + l ≤ M → GetsK Try.prog Try.f50.results.toList [none, none] (KK g50) 0 r 2 (stOf 79 [1,4,5,7,22,23,54,55,56] [.ptr 0 0 0, .own 1 0 N none, .v (.int .i64 n), .own 2 o l none, .v (.int .i64 N), .v (.int .i64 i), .own 3 0 L.length none, .v (.int .i64 L.length), .v (.int .i64 k)] [.live (.box 35 [.v (.int .i64 g.h), .v (.int .i64 g.w), .sl false false .bool g.B, .sl false false .bool g.R, .sl false false .bool g.L]), .live (.data 3 (.int .i64) p), .live (.data 3 (.int .i64) ts), .live (.data 3 (.int .i64) L)]) := by
  induction m with
  | zero =>
    intro k o l p ts k0 km K hm
    refine gets_vc (spG true) (fun k => if k = 0 then [1,4,5,22,23] else if k = 1 then [1,4,5,7,22,23] else [1,4,5,7,22,23,54,55,56]) (fun k => if k = 1 then [⟨7, 3, .int .i64⟩] else if k = 99 then [⟨2, 3, .int .i64⟩] else []) 400 (.fork (.fork (.hd 2) (.hd 2)) (.hd 1)) (V := fun G R => (decide (k < (↑L.length : Int)) = true → (0 : Int) ≤ k ∧ k < (↑L.length : Int) ∧ 0 + k.toNat < L.length ∧ (0 : Int) ≤ L.getD (0 + k.toNat) (Ty.int IntKind.i64).dflt ∧ L.getD (0 + k.toNat) (Ty.int IntKind.i64).dflt < (↑N : Int) ∧ 0 + Int.toNat (L.getD (0 + k.toNat) (Ty.int IntKind.i64).dflt) < p.length ∧ (decide (p.getD (0 + Int.toNat (L.getD (0 + k.toNat) (Ty.int IntKind.i64).dflt)) (Ty.int IntKind.i64).dflt < (0 : Int)) = true → (0 : Int) ≤ L.getD (0 + k.toNat) (Ty.int IntKind.i64).dflt ∧ L.getD (0 + k.toNat) (Ty.int IntKind.i64).dflt < (↑N : Int) ∧ 0 + Int.toNat (L.getD (0 + k.toNat) (Ty.int IntKind.i64).dflt) < p.length ∧ roomy Try.prog 3 (l + 1) ∧ SameK (KK g50 2) (KK g50 2) ∧ G 2 (stOf 79 [1, 4, 5, 7, 22, 23, 54, 55, 56] [D.ptr 0 0 0, D.own 1 0 N none, D.v (Value.int IntKind.i64 n), D.own 2 0 (l + 1) none, D.v (Value.int IntKind.i64 (↑N : Int)), D.v (Value.int IntKind.i64 i), D.own 3 0 L.length none, D.v (Value.int IntKind.i64 (↑L.length : Int)), D.v (Value.int IntKind.i64 (IntKind.i64.wrap (k + (1 : Int))))] [Slot.live (Row.box 35 [D.v (Value.int IntKind.i64 g.h), D.v (Value.int IntKind.i64 g.w), D.sl false false Ty.bool g.B, D.sl false false Ty.bool g.R, D.sl false false Ty.bool g.L]), Slot.live (Row.data 3 (Ty.int IntKind.i64) (p.set (0 + Int.toNat (L.getD (0 + k.toNat) (Ty.int IntKind.i64).dflt)) n)), Slot.live (Row.data 3 (Ty.int IntKind.i64) (List.take l (List.drop o ts) ++ List.take 1 (List.drop 0 [L.getD (0 + k.toNat) (Ty.int IntKind.i64).dflt]))), Slot.live (Row.data 3 (Ty.int IntKind.i64) L)])) ∧ (decide (p.getD (0 + Int.toNat (L.getD (0 + k.toNat) (Ty.int IntKind.i64).dflt)) (Ty.int IntKind.i64).dflt < (0 : Int)) = false → SameK (KK g50 2) (KK g50 2) ∧ G 2 (stOf 79 [1, 4, 5, 7, 22, 23, 54, 55, 56] [D.ptr 0 0 0, D.own 1 0 N none, D.v (Value.int IntKind.i64 n), D.own 2 o l none, D.v (Value.int IntKind.i64 (↑N : Int)), D.v (Value.int IntKind.i64 i), D.own 3 0 L.length none, D.v (Value.int IntKind.i64 (↑L.length : Int)), D.v (Value.int IntKind.i64 (IntKind.i64.wrap (k + (1 : Int))))] [Slot.live (Row.box 35 [D.v (Value.int IntKind.i64 g.h), D.v (Value.int IntKind.i64 g.w), D.sl false false Ty.bool g.B, D.sl false false Ty.bool g.R, D.sl false false Ty.bool g.L]), Slot.live (Row.data 3 (Ty.int IntKind.i64) p), Slot.live (Row.data 3 (Ty.int IntKind.i64) ts), Slot.live (Row.data 3 (Ty.int IntKind.i64) L)]))) ∧ (decide (k < (↑L.length : Int)) = false → SameK (KK g50 1) (KK g50 1) ∧ G 1 (stOf 79 [1, 4, 5, 7, 22, 23] [D.ptr 0 0 0, D.own 1 0 N none, D.v (Value.int IntKind.i64 n), D.own 2 o l none, D.v (Value.int IntKind.i64 (↑N : Int)), D.v (Value.int IntKind.i64 i)] [Slot.live (Row.box 35 [D.v (Value.int IntKind.i64 g.h), D.v (Value.int IntKind.i64 g.w), D.sl false false Ty.bool g.B, D.sl false false Ty.bool g.R, D.sl false false Ty.bool g.L]), Slot.live (Row.data 3 (Ty.int IntKind.i64) p), Slot.live (Row.data 3 (Ty.int IntKind.i64) ts)]))) hmG (fun G R => by kernel_rfl) ?_
    try dsimp only
    refine ⟨fun hk => ?_, fun hk => ⟨SameK.same _, ?_⟩⟩
    · rw [decide_eq_true_eq] at hk; omega
    · rw [List.drop_eq_nil_of_le (by omega)] at K
      exact IH o l p ts K.fin hm
  | succ m ih =>
    intro k o l p ts k0 km K hm
    have hd := drop_at (xs := L) (i := k) (0 : Int) k0 (by omega)
    rw [hd] at K
    have hy := K.near _ List.mem_cons_self
    have oy := (near_back hy).2.1
    obtain ⟨_, y0, y1, _⟩ := open_in oy
    have pl : (p.length : Int) = N := by rw [hN]; exact K.cur.len
    refine gets_vc (spG true) (fun k => if k = 0 then [1,4,5,22,23] else if k = 1 then [1,4,5,7,22,23] else [1,4,5,7,22,23,54,55,56]) (fun k => if k = 1 then [⟨7, 3, .int .i64⟩] else if k = 99 then [⟨2, 3, .int .i64⟩] else []) 400 (.fork (.fork (.hd 2) (.hd 2)) (.hd 1)) (V := fun G R => (decide (k < (↑L.length : Int)) = true → (0 : Int) ≤ k ∧ k < (↑L.length : Int) ∧ 0 + k.toNat < L.length ∧ (0 : Int) ≤ L.getD (0 + k.toNat) (Ty.int IntKind.i64).dflt ∧ L.getD (0 + k.toNat) (Ty.int IntKind.i64).dflt < (↑N : Int) ∧ 0 + Int.toNat (L.getD (0 + k.toNat) (Ty.int IntKind.i64).dflt) < p.length ∧ (decide (p.getD (0 + Int.toNat (L.getD (0 + k.toNat) (Ty.int IntKind.i64).dflt)) (Ty.int IntKind.i64).dflt < (0 : Int)) = true → (0 : Int) ≤ L.getD (0 + k.toNat) (Ty.int IntKind.i64).dflt ∧ L.getD (0 + k.toNat) (Ty.int IntKind.i64).dflt < (↑N : Int) ∧ 0 + Int.toNat (L.getD (0 + k.toNat) (Ty.int IntKind.i64).dflt) < p.length ∧ roomy Try.prog 3 (l + 1) ∧ SameK (KK g50 2) (KK g50 2) ∧ G 2 (stOf 79 [1, 4, 5, 7, 22, 23, 54, 55, 56] [D.ptr 0 0 0, D.own 1 0 N none, D.v (Value.int IntKind.i64 n), D.own 2 0 (l + 1) none, D.v (Value.int IntKind.i64 (↑N : Int)), D.v (Value.int IntKind.i64 i), D.own 3 0 L.length none, D.v (Value.int IntKind.i64 (↑L.length : Int)), D.v (Value.int IntKind.i64 (IntKind.i64.wrap (k + (1 : Int))))] [Slot.live (Row.box 35 [D.v (Value.int IntKind.i64 g.h), D.v (Value.int IntKind.i64 g.w), D.sl false false Ty.bool g.B, D.sl false false Ty.bool g.R, D.sl false false Ty.bool g.L]), Slot.live (Row.data 3 (Ty.int IntKind.i64) (p.set (0 + Int.toNat (L.getD (0 + k.toNat) (Ty.int IntKind.i64).dflt)) n)), Slot.live (Row.data 3 (Ty.int IntKind.i64) (List.take l (List.drop o ts) ++ List.take 1 (List.drop 0 [L.getD (0 + k.toNat) (Ty.int IntKind.i64).dflt]))), Slot.live (Row.data 3 (Ty.int IntKind.i64) L)])) ∧ (decide (p.getD (0 + Int.toNat (L.getD (0 + k.toNat) (Ty.int IntKind.i64).dflt)) (Ty.int IntKind.i64).dflt < (0 : Int)) = false → SameK (KK g50 2) (KK g50 2) ∧ G 2 (stOf 79 [1, 4, 5, 7, 22, 23, 54, 55, 56] [D.ptr 0 0 0, D.own 1 0 N none, D.v (Value.int IntKind.i64 n), D.own 2 o l none, D.v (Value.int IntKind.i64 (↑N : Int)), D.v (Value.int IntKind.i64 i), D.own 3 0 L.length none, D.v (Value.int IntKind.i64 (↑L.length : Int)), D.v (Value.int IntKind.i64 (IntKind.i64.wrap (k + (1 : Int))))] [Slot.live (Row.box 35 [D.v (Value.int IntKind.i64 g.h), D.v (Value.int IntKind.i64 g.w), D.sl false false Ty.bool g.B, D.sl false false Ty.bool g.R, D.sl false false Ty.bool g.L]), Slot.live (Row.data 3 (Ty.int IntKind.i64) p), Slot.live (Row.data 3 (Ty.int IntKind.i64) ts), Slot.live (Row.data 3 (Ty.int IntKind.i64) L)]))) ∧ (decide (k < (↑L.length : Int)) = false → SameK (KK g50 1) (KK g50 1) ∧ G 1 (stOf 79 [1, 4, 5, 7, 22, 23] [D.ptr 0 0 0, D.own 1 0 N none, D.v (Value.int IntKind.i64 n), D.own 2 o l none, D.v (Value.int IntKind.i64 (↑N : Int)), D.v (Value.int IntKind.i64 i)] [Slot.live (Row.box 35 [D.v (Value.int IntKind.i64 g.h), D.v (Value.int IntKind.i64 g.w), D.sl false false Ty.bool g.B, D.sl false false Ty.bool g.R, D.sl false false Ty.bool g.L]), Slot.live (Row.data 3 (Ty.int IntKind.i64) p), Slot.live (Row.data 3 (Ty.int IntKind.i64) ts)]))) hmG (fun G R => by kernel_rfl) ?_
    try dsimp only
    simp only [Nat.zero_add, Ty.dflt, List.drop_zero]
    generalize hyy : L.getD k.toNat 0 = y at *
    have ep := getD_pAt (p := p) (i := y) (by omega)
    rw [ep]
    have tk : List.take l (List.drop o ts) = List.drop o ts := List.take_of_length_le (by have := K.ol; simp; omega)
    have wk : IntKind.i64.wrap (k + 1) = k + 1 := wrG (by omega) (by omega)
    rw [tk, wk]
    refine ⟨fun hk => ⟨by omega, by omega, by omega, by omega, by omega, by omega, fun hp => ⟨by omega, by omega, by omega, room3 (by omega), SameK.same _, ?_⟩, fun hp => ⟨SameK.same _, ?_⟩⟩, fun hk => ?_⟩
    · rw [decide_eq_true_eq] at hp
      have hu := unl_set (p := p) (k := y.toNat) (n := n) K.cur.n0 (by omega) hp
      exact ih (k + 1) 0 (l + 1) _ _ (by omega) (by omega) (K.mark hp) (by omega)
    · rw [decide_eq_false_iff_not] at hp
      exact ih (k + 1) o l p ts (by omega) (by omega) (K.skip (by omega)) hm
    · rw [decide_eq_false_iff_not] at hk; omega

theorem near_len (g : Gr) (i : Int) : ∀ (m : Nat) (y : Int), (nearFrom g i m y).length ≤ m
  | 0, y => by simp [nearFrom]
  | m + 1, y => by
    have := near_len g i m (y + 1)
    simp only [nearFrom, List.length_append]
    split <;> simp <;> omega

theorem e50_1 (g : Gr) (N : Nat) (n i : Int) (r : D × List (Option Row) × List Row) (hN : (N : Int) = g.h * g.w) (hn : n ≤ 300) (hi : i ≤ 300)
    (cont : ∀ p, Lab g p (n + 1) (i + 1) → GetsK Try.prog Try.f50.results.toList [none, none] (KK g50) 0 r 0 (stOf 79 [1,4,5,22,23] [.ptr 0 0 0, .own 1 0 N none, .v (.int .i64 (n + 1)), .v (.int .i64 N), .v (.int .i64 (i + 1))] [.live (.box 35 [.v (.int .i64 g.h), .v (.int .i64 g.w), .sl false false .bool g.B, .sl false false .bool g.R, .sl false false .bool g.L]), .live (.data 3 (.int .i64) p)])) (M : Nat) :
    M ≤ 1000 → ∀ (o l : Nat) (p ts : List Int), Todo g p n i o l ts → 2 * unl p + l ≤ M → GetsK Try.prog Try.f50.results.toList [none, none] (KK g50) 0 r 1 (stOf 79 [1,4,5,7,22,23] [.ptr 0 0 0, .own 1 0 N none, .v (.int .i64 n), .own 2 o l none, .v (.int .i64 N), .v (.int .i64 i)] [.live (.box 35 [.v (.int .i64 g.h), .v (.int .i64 g.w), .sl false false .bool g.B, .sl false false .bool g.R, .sl false false .bool g.L]), .live (.data 3 (.int .i64) p), .live (.data 3 (.int .i64) ts)]) := by
  induction M with
  | zero =>
    intro hM o l p ts T hm
    have n0 := T.cur.n0
    have i0 := (open_in T.cur.oi).2.1
    refine gets_vc (spG true) (fun k => if k = 0 then [1,4,5,22,23] else if k = 1 then [1,4,5,7,22,23] else [1,4,5,7,22,23,54,55,56]) (fun k => if k = 1 then [⟨7, 3, .int .i64⟩] else if k = 99 then [⟨2, 3, .int .i64⟩] else []) 400 (.fork (.hd 2) (.hd 0)) (V := fun G R => (decide ((↑l : Int) > (0 : Int)) = true → (0 : Int) ≤ (0 : Int) ∧ (0 : Int) < (↑l : Int) ∧ o + 0 < ts.length ∧ (0 : Int) ≤ (1 : Int) ∧ (1 : Int) ≤ (↑l : Int) ∧ (↑l : Int) ≤ (↑(ts.length - o) : Int) ∧ Con Try.prog 86 [] [D.agg [D.v (Value.int IntKind.i64 g.h), D.v (Value.int IntKind.i64 g.w), D.sl false false Ty.bool g.B, D.sl false false Ty.bool g.R, D.sl false false Ty.bool g.L], D.v (Value.int IntKind.i64 (ts.getD (o + 0) (Ty.int IntKind.i64).dflt))] (D.own 0 0 (nearFrom g (ts.getD (o + 0) (Ty.int IntKind.i64).dflt) 4 (0 : Int)).length none) [] [Row.data 3 (Ty.int IntKind.i64) (nearFrom g (ts.getD (o + 0) (Ty.int IntKind.i64).dflt) 4 (0 : Int))] ∧ Value.int IntKind.i64 g.h = Value.int IntKind.i64 g.h ∧ Value.int IntKind.i64 g.w = Value.int IntKind.i64 g.w ∧ g.B = g.B ∧ g.R = g.R ∧ g.L = g.L ∧ Value.int IntKind.i64 (ts.getD (o + 0) (Ty.int IntKind.i64).dflt) = Value.int IntKind.i64 (ts.getD (o + 0) (Ty.int IntKind.i64).dflt) ∧ SameK (KK g50 2) (KK g50 2) ∧ G 2 (stOf 79 [1, 4, 5, 7, 22, 23, 54, 55, 56] [D.ptr 0 0 0, D.own 1 0 N none, D.v (Value.int IntKind.i64 n), D.own 2 (o + 1) ((↑l : Int).toNat - 1) none, D.v (Value.int IntKind.i64 (↑N : Int)), D.v (Value.int IntKind.i64 i), D.own 3 0 (nearFrom g (ts.getD (o + 0) (Ty.int IntKind.i64).dflt) 4 (0 : Int)).length none, D.v (Value.int IntKind.i64 (↑(nearFrom g (ts.getD (o + 0) (Ty.int IntKind.i64).dflt) 4 (0 : Int)).length : Int)), D.v (Value.int IntKind.i64 (0 : Int))] [Slot.live (Row.box 35 [D.v (Value.int IntKind.i64 g.h), D.v (Value.int IntKind.i64 g.w), D.sl false false Ty.bool g.B, D.sl false false Ty.bool g.R, D.sl false false Ty.bool g.L]), Slot.live (Row.data 3 (Ty.int IntKind.i64) p), Slot.live (Row.data 3 (Ty.int IntKind.i64) ts), Slot.live (Row.data 3 (Ty.int IntKind.i64) (nearFrom g (ts.getD (o + 0) (Ty.int IntKind.i64).dflt) 4 (0 : Int)))])) ∧ (decide ((↑l : Int) > (0 : Int)) = false → SameK (KK g50 0) (KK g50 0) ∧ G 0 (stOf 79 [1, 4, 5, 22, 23] [D.ptr 0 0 0, D.own 1 0 N none, D.v (Value.int IntKind.i64 (IntKind.i64.wrap (n + (1 : Int)))), D.v (Value.int IntKind.i64 (↑N : Int)), D.v (Value.int IntKind.i64 (IntKind.i64.wrap (i + (1 : Int))))] [Slot.live (Row.box 35 [D.v (Value.int IntKind.i64 g.h), D.v (Value.int IntKind.i64 g.w), D.sl false false Ty.bool g.B, D.sl false false Ty.bool g.R, D.sl false false Ty.bool g.L]), Slot.live (Row.data 3 (Ty.int IntKind.i64) p)]))) hmG (fun G R => by kernel_rfl) ?_
    try dsimp only
    refine ⟨fun hl => ?_, fun hl => ⟨SameK.same _, ?_⟩⟩
    · rw [decide_eq_true_eq] at hl; omega
    · rw [wrG (by omega) (by omega), wrG (by omega) (by omega)]
      refine cont p (T.cur.fin fun x hx hp => ?_)
      refine (T.fr x hx hp).resolve_left ?_
      rw [List.drop_eq_nil_of_le (by have := T.ol; omega)]
      simp
  | succ M ih =>
    intro hM o l p ts T hm
    have n0 := T.cur.n0
    have i0 := (open_in T.cur.oi).2.1
    have ol := T.ol
    refine gets_vc (spG true) (fun k => if k = 0 then [1,4,5,22,23] else if k = 1 then [1,4,5,7,22,23] else [1,4,5,7,22,23,54,55,56]) (fun k => if k = 1 then [⟨7, 3, .int .i64⟩] else if k = 99 then [⟨2, 3, .int .i64⟩] else []) 400 (.fork (.hd 2) (.hd 0)) (V := fun G R => (decide ((↑l : Int) > (0 : Int)) = true → (0 : Int) ≤ (0 : Int) ∧ (0 : Int) < (↑l : Int) ∧ o + 0 < ts.length ∧ (0 : Int) ≤ (1 : Int) ∧ (1 : Int) ≤ (↑l : Int) ∧ (↑l : Int) ≤ (↑(ts.length - o) : Int) ∧ Con Try.prog 86 [] [D.agg [D.v (Value.int IntKind.i64 g.h), D.v (Value.int IntKind.i64 g.w), D.sl false false Ty.bool g.B, D.sl false false Ty.bool g.R, D.sl false false Ty.bool g.L], D.v (Value.int IntKind.i64 (ts.getD (o + 0) (Ty.int IntKind.i64).dflt))] (D.own 0 0 (nearFrom g (ts.getD (o + 0) (Ty.int IntKind.i64).dflt) 4 (0 : Int)).length none) [] [Row.data 3 (Ty.int IntKind.i64) (nearFrom g (ts.getD (o + 0) (Ty.int IntKind.i64).dflt) 4 (0 : Int))] ∧ Value.int IntKind.i64 g.h = Value.int IntKind.i64 g.h ∧ Value.int IntKind.i64 g.w = Value.int IntKind.i64 g.w ∧ g.B = g.B ∧ g.R = g.R ∧ g.L = g.L ∧ Value.int IntKind.i64 (ts.getD (o + 0) (Ty.int IntKind.i64).dflt) = Value.int IntKind.i64 (ts.getD (o + 0) (Ty.int IntKind.i64).dflt) ∧ SameK (KK g50 2) (KK g50 2) ∧ G 2 (stOf 79 [1, 4, 5, 7, 22, 23, 54, 55, 56] [D.ptr 0 0 0, D.own 1 0 N none, D.v (Value.int IntKind.i64 n), D.own 2 (o + 1) ((↑l : Int).toNat - 1) none, D.v (Value.int IntKind.i64 (↑N : Int)), D.v (Value.int IntKind.i64 i), D.own 3 0 (nearFrom g (ts.getD (o + 0) (Ty.int IntKind.i64).dflt) 4 (0 : Int)).length none, D.v (Value.int IntKind.i64 (↑(nearFrom g (ts.getD (o + 0) (Ty.int IntKind.i64).dflt) 4 (0 : Int)).length : Int)), D.v (Value.int IntKind.i64 (0 : Int))] [Slot.live (Row.box 35 [D.v (Value.int IntKind.i64 g.h), D.v (Value.int IntKind.i64 g.w), D.sl false false Ty.bool g.B, D.sl false false Ty.bool g.R, D.sl false false Ty.bool g.L]), Slot.live (Row.data 3 (Ty.int IntKind.i64) p), Slot.live (Row.data 3 (Ty.int IntKind.i64) ts), Slot.live (Row.data 3 (Ty.int IntKind.i64) (nearFrom g (ts.getD (o + 0) (Ty.int IntKind.i64).dflt) 4 (0 : Int)))])) ∧ (decide ((↑l : Int) > (0 : Int)) = false → SameK (KK g50 0) (KK g50 0) ∧ G 0 (stOf 79 [1, 4, 5, 22, 23] [D.ptr 0 0 0, D.own 1 0 N none, D.v (Value.int IntKind.i64 (IntKind.i64.wrap (n + (1 : Int)))), D.v (Value.int IntKind.i64 (↑N : Int)), D.v (Value.int IntKind.i64 (IntKind.i64.wrap (i + (1 : Int))))] [Slot.live (Row.box 35 [D.v (Value.int IntKind.i64 g.h), D.v (Value.int IntKind.i64 g.w), D.sl false false Ty.bool g.B, D.sl false false Ty.bool g.R, D.sl false false Ty.bool g.L]), Slot.live (Row.data 3 (Ty.int IntKind.i64) p)]))) hmG (fun G R => by kernel_rfl) ?_
    try dsimp only
    simp only [Nat.add_zero, Ty.dflt, Int.toNat_natCast]
    refine ⟨fun hl => ?_, fun hl => ⟨SameK.same _, ?_⟩⟩
    · rw [decide_eq_true_eq] at hl
      have P := T.pop (by omega)
      have oa := P.oat
      have en : nearF g (ts.getD o 0) = nearFrom g (ts.getD o 0) 4 0 := by unfold nearF; rw [if_pos oa]
      rw [en] at P
      refine ⟨by omega, by omega, by omega, by omega, by omega, by omega, d86 g _ oa, trivial, trivial, trivial, trivial, trivial, trivial, SameK.same _, ?_⟩
      exact e50_2 g N M n i r hN (by omega) (ih (by omega)) _ (near_len g _ 4 0) _ _ 0 (o + 1) (l - 1) p ts (by omega) (Int.zero_add _) P (by omega)
    · rw [decide_eq_false_iff_not] at hl
      rw [wrG (by omega) (by omega), wrG (by omega) (by omega)]
      refine cont p (T.cur.fin fun x hx hp => ?_)
      refine (T.fr x hx hp).resolve_left ?_
      rw [List.drop_eq_nil_of_le (by omega)]
      simp

theorem unl_le (p : List Int) : unl p ≤ p.length := List.length_filter_le _ _

theorem e50_0 (g : Gr) (N : Nat) (hN : (N : Int) = g.h * g.w) (m : Nat) : ∀ (i n : Int) (p : List Int), Lab g p n i → n ≤ i → i + m = g.h * g.w →
    GetsK Try.prog Try.f50.results.toList [none, none] (KK g50) 0 (.tup [.own 0 0 (partsF g).1.length none, .v (.int .i64 (partsF g).2)], [], [.data 3 (.int .i64) (partsF g).1]) 0 (stOf 79 [1,4,5,22,23] [.ptr 0 0 0, .own 1 0 N none, .v (.int .i64 n), .v (.int .i64 N), .v (.int .i64 i)] [.live (.box 35 [.v (.int .i64 g.h), .v (.int .i64 g.w), .sl false false .bool g.B, .sl false false .bool g.R, .sl false false .bool g.L]), .live (.data 3 (.int .i64) p)]) := by
  induction m with
  | zero =>
    intro i n p L hn im
    have e := partsF_eq L.chk (L.fin (by omega))
    have pl : p.length = N := by have := L.len; omega
    refine gets_vc (spG true) (fun k => if k = 0 then [1,4,5,22,23] else if k = 1 then [1,4,5,7,22,23] else [1,4,5,7,22,23,54,55,56]) (fun k => if k = 1 then [⟨7, 3, .int .i64⟩] else if k = 99 then [⟨2, 3, .int .i64⟩] else []) 400 (.fork (.fork (.t (.hd 0)) (.fork (.hd 0) (.hd 1))) .stop) (V := fun G R => (decide (i < (↑N : Int)) = true → (0 : Int) ≤ i ∧ i < (↑N : Int) ∧ 0 + i.toNat < p.length ∧ (decide (p.getD (0 + i.toNat) (Ty.int IntKind.i64).dflt ≥ (0 : Int)) = true → true = true ∧ SameK (KK g50 0) (KK g50 0) ∧ G 0 (stOf 79 [1, 4, 5, 22, 23] [D.ptr 0 0 0, D.own 1 0 N none, D.v (Value.int IntKind.i64 n), D.v (Value.int IntKind.i64 (↑N : Int)), D.v (Value.int IntKind.i64 (IntKind.i64.wrap (i + (1 : Int))))] [Slot.live (Row.box 35 [D.v (Value.int IntKind.i64 g.h), D.v (Value.int IntKind.i64 g.w), D.sl false false Ty.bool g.B, D.sl false false Ty.bool g.R, D.sl false false Ty.bool g.L]), Slot.live (Row.data 3 (Ty.int IntKind.i64) p)])) ∧ (decide (p.getD (0 + i.toNat) (Ty.int IntKind.i64).dflt ≥ (0 : Int)) = false → (0 : Int) ≤ i ∧ i < (↑g.B.length : Int) ∧ (g.B.getD i.toNat Ty.bool.dflt = true → SameK (KK g50 0) (KK g50 0) ∧ G 0 (stOf 79 [1, 4, 5, 22, 23] [D.ptr 0 0 0, D.own 1 0 N none, D.v (Value.int IntKind.i64 n), D.v (Value.int IntKind.i64 (↑N : Int)), D.v (Value.int IntKind.i64 (IntKind.i64.wrap (i + (1 : Int))))] [Slot.live (Row.box 35 [D.v (Value.int IntKind.i64 g.h), D.v (Value.int IntKind.i64 g.w), D.sl false false Ty.bool g.B, D.sl false false Ty.bool g.R, D.sl false false Ty.bool g.L]), Slot.live (Row.data 3 (Ty.int IntKind.i64) p)])) ∧ (g.B.getD i.toNat Ty.bool.dflt = false → (0 : Int) ≤ i ∧ i < (↑N : Int) ∧ 0 + i.toNat < p.length ∧ SameK (KK g50 1) (KK g50 1) ∧ G 1 (stOf 79 [1, 4, 5, 7, 22, 23] [D.ptr 0 0 0, D.own 1 0 N none, D.v (Value.int IntKind.i64 n), D.own 2 0 1 none, D.v (Value.int IntKind.i64 (↑N : Int)), D.v (Value.int IntKind.i64 i)] [Slot.live (Row.box 35 [D.v (Value.int IntKind.i64 g.h), D.v (Value.int IntKind.i64 g.w), D.sl false false Ty.bool g.B, D.sl false false Ty.bool g.R, D.sl false false Ty.bool g.L]), Slot.live (Row.data 3 (Ty.int IntKind.i64) (p.set (0 + i.toNat) n)), Slot.live (Row.data 3 (Ty.int IntKind.i64) [i])])))) ∧ (decide (i < (↑N : Int)) = false → R (D.tup [D.own 0 0 N none, D.v (Value.int IntKind.i64 n)], [], [Row.data 3 (Ty.int IntKind.i64) p]))) hmG (fun G R => by kernel_rfl) ?_
    try dsimp only
    refine ⟨fun hl => ?_, fun hl => ?_⟩
    · rw [decide_eq_true_eq] at hl; omega
    · rw [e, ← pl]
  | succ m ih =>
    intro i n p L hn im
    obtain ⟨h1, w1, sz, _⟩ := chk0.1 L.chk
    have hw := hw_in h1 w1
    obtain ⟨s1, _⟩ := size3 sz
    have i0 := L.i0
    have n0 := L.n0
    have pl : (p.length : Int) = N := by rw [hN]; exact L.len
    refine gets_vc (spG true) (fun k => if k = 0 then [1,4,5,22,23] else if k = 1 then [1,4,5,7,22,23] else [1,4,5,7,22,23,54,55,56]) (fun k => if k = 1 then [⟨7, 3, .int .i64⟩] else if k = 99 then [⟨2, 3, .int .i64⟩] else []) 400 (.fork (.fork (.t (.hd 0)) (.fork (.hd 0) (.hd 1))) .stop) (V := fun G R => (decide (i < (↑N : Int)) = true → (0 : Int) ≤ i ∧ i < (↑N : Int) ∧ 0 + i.toNat < p.length ∧ (decide (p.getD (0 + i.toNat) (Ty.int IntKind.i64).dflt ≥ (0 : Int)) = true → true = true ∧ SameK (KK g50 0) (KK g50 0) ∧ G 0 (stOf 79 [1, 4, 5, 22, 23] [D.ptr 0 0 0, D.own 1 0 N none, D.v (Value.int IntKind.i64 n), D.v (Value.int IntKind.i64 (↑N : Int)), D.v (Value.int IntKind.i64 (IntKind.i64.wrap (i + (1 : Int))))] [Slot.live (Row.box 35 [D.v (Value.int IntKind.i64 g.h), D.v (Value.int IntKind.i64 g.w), D.sl false false Ty.bool g.B, D.sl false false Ty.bool g.R, D.sl false false Ty.bool g.L]), Slot.live (Row.data 3 (Ty.int IntKind.i64) p)])) ∧ (decide (p.getD (0 + i.toNat) (Ty.int IntKind.i64).dflt ≥ (0 : Int)) = false → (0 : Int) ≤ i ∧ i < (↑g.B.length : Int) ∧ (g.B.getD i.toNat Ty.bool.dflt = true → SameK (KK g50 0) (KK g50 0) ∧ G 0 (stOf 79 [1, 4, 5, 22, 23] [D.ptr 0 0 0, D.own 1 0 N none, D.v (Value.int IntKind.i64 n), D.v (Value.int IntKind.i64 (↑N : Int)), D.v (Value.int IntKind.i64 (IntKind.i64.wrap (i + (1 : Int))))] [Slot.live (Row.box 35 [D.v (Value.int IntKind.i64 g.h), D.v (Value.int IntKind.i64 g.w), D.sl false false Ty.bool g.B, D.sl false false Ty.bool g.R, D.sl false false Ty.bool g.L]), Slot.live (Row.data 3 (Ty.int IntKind.i64) p)])) ∧ (g.B.getD i.toNat Ty.bool.dflt = false → (0 : Int) ≤ i ∧ i < (↑N : Int) ∧ 0 + i.toNat < p.length ∧ SameK (KK g50 1) (KK g50 1) ∧ G 1 (stOf 79 [1, 4, 5, 7, 22, 23] [D.ptr 0 0 0, D.own 1 0 N none, D.v (Value.int IntKind.i64 n), D.own 2 0 1 none, D.v (Value.int IntKind.i64 (↑N : Int)), D.v (Value.int IntKind.i64 i)] [Slot.live (Row.box 35 [D.v (Value.int IntKind.i64 g.h), D.v (Value.int IntKind.i64 g.w), D.sl false false Ty.bool g.B, D.sl false false Ty.bool g.R, D.sl false false Ty.bool g.L]), Slot.live (Row.data 3 (Ty.int IntKind.i64) (p.set (0 + i.toNat) n)), Slot.live (Row.data 3 (Ty.int IntKind.i64) [i])])))) ∧ (decide (i < (↑N : Int)) = false → R (D.tup [D.own 0 0 N none, D.v (Value.int IntKind.i64 n)], [], [Row.data 3 (Ty.int IntKind.i64) p]))) hmG (fun G R => by kernel_rfl) ?_
    try dsimp only
    simp only [Nat.zero_add, Ty.dflt]
    rw [getD_pAt (by omega), wrG (by omega) (by omega)]
    refine ⟨fun hl => ⟨by omega, by omega, by omega, fun hp => ⟨trivial, SameK.same _, ?_⟩, fun hp => ⟨by omega, by omega, fun hb => ⟨SameK.same _, ?_⟩, fun hb => ⟨by omega, by omega, by omega, SameK.same _, ?_⟩⟩⟩, fun hl => ?_⟩
    · rw [decide_eq_true_eq] at hp
      exact ih (i + 1) n p (L.skip (.inl hp)) (by omega) (by omega)
    · exact ih (i + 1) n p (L.skip (.inr hb)) (by omega) (by omega)
    · rw [decide_eq_false_iff_not] at hp
      have ho : openF g i = true := by rw [open_of L.chk i0 (by omega), show bAt g.B i = false from hb]; rfl
      have hu := unl_set (p := p) (k := i.toNat) (n := n) n0 (by omega) (by show pAt p i < 0; omega)
      have hp2 := unl_le p
      have C := L.begin ho (by omega)
      refine e50_1 g N n i _ hN (by omega) (by omega) (fun p' L' => ih (i + 1) (n + 1) p' L' (by omega) (by omega)) 1000 (Nat.le_refl _) 0 1 _ _ ⟨C, rfl, ?_, ?_⟩ (by omega)
      · intro x hx
        simp only [List.drop_zero, List.mem_singleton] at hx
        subst hx
        exact ⟨ho, C.here⟩
      · intro x hx hpx
        have : x = i := by
          rw [pAt_set (open_in hx).2.1 i0 (by omega)] at hpx
          split at hpx
          · assumption
          · have := L.lo x hx
            omega
        subst this
        simp
    · rw [decide_eq_false_iff_not] at hl; omega

theorem d50 (g : Gr)  : Con Try.prog 50 [] [g.d] (.tup [.own 0 0 (partsF g).1.length none, .v (.int .i64 (partsF g).2)]) [] [.data 3 (.int .i64) (partsF g).1] := by
  refine con_vc (how := [none, none]) (c := g50) (K := (KK g50)) (spG true) (fun k => if k = 0 then [1,4,5,22,23] else if k = 1 then [1,4,5,7,22,23] else [1,4,5,7,22,23,54,55,56]) (fun k => if k = 1 then [⟨7, 3, .int .i64⟩] else if k = 99 then [⟨2, 3, .int .i64⟩] else []) 400 (.fork .stop (.hd 0)) (V := fun G R => Con Try.prog 43 [] [D.agg [D.v (Value.int IntKind.i64 g.h), D.v (Value.int IntKind.i64 g.w), D.sl false false Ty.bool g.B, D.sl false false Ty.bool g.R, D.sl false false Ty.bool g.L]] (D.v (Value.int IntKind.i64 (checkF g))) [] [] ∧ Value.int IntKind.i64 g.h = Value.int IntKind.i64 g.h ∧ Value.int IntKind.i64 g.w = Value.int IntKind.i64 g.w ∧ g.B = g.B ∧ g.R = g.R ∧ g.L = g.L ∧ ((checkF g != (0 : Int)) = true → R (D.tup [D.own 0 0 0 none, D.v (Value.int IntKind.i64 (0 : Int))], [], [Row.data 3 (Ty.int IntKind.i64) []])) ∧ ((checkF g != (0 : Int)) = false → Con Try.prog 91 [] [D.sl false false (Ty.int IntKind.i64) [(-1 : Int)], D.v (Value.int IntKind.i64 (IntKind.i64.wrap (g.h * g.w)))] (D.own 0 0 (IntKind.i64.wrap (g.h * g.w)).toNat none) [] [Row.data 3 (Ty.int IntKind.i64) (List.replicate (IntKind.i64.wrap (g.h * g.w)).toNat (-1 : Int))] ∧ List.take 1 (List.drop 0 [(-1 : Int)]) = [(-1 : Int)] ∧ Value.int IntKind.i64 (IntKind.i64.wrap (g.h * g.w)) = Value.int IntKind.i64 (IntKind.i64.wrap (g.h * g.w)) ∧ SameK (KK g50 0) (KK g50 0) ∧ G 0 (stOf 79 [1, 4, 5, 22, 23] [D.ptr 0 0 0, D.own 1 0 (IntKind.i64.wrap (g.h * g.w)).toNat none, D.v (Value.int IntKind.i64 (0 : Int)), D.v (Value.int IntKind.i64 (↑(IntKind.i64.wrap (g.h * g.w)).toNat : Int)), D.v (Value.int IntKind.i64 (0 : Int))] [Slot.live (Row.box 35 [D.v (Value.int IntKind.i64 g.h), D.v (Value.int IntKind.i64 g.w), D.sl false false Ty.bool g.B, D.sl false false Ty.bool g.R, D.sl false false Ty.bool g.L]), Slot.live (Row.data 3 (Ty.int IntKind.i64) (List.replicate (IntKind.i64.wrap (g.h * g.w)).toNat (-1 : Int)))]))) hmG Try.func50 (by kernel_rfl) (by kernel_rfl) (fun G R => by kernel_rfl) ?_
  try dsimp only
  have hbad : checkF g ≠ 0 → partsF g = ([], 0) := by
    intro hc
    unfold partsF
    rw [dif_neg (fun h => hc h.1)]
  refine ⟨d43 g, rfl, rfl, rfl, rfl, rfl, fun hc => ?_, fun hc => ?_⟩
  · rw [hbad (by simpa using hc)]
    rfl
  · have hc' : checkF g = 0 := by simpa using hc
    obtain ⟨h1, w1, _, _⟩ := chk0.1 hc'
    have hw := hw_in h1 w1
    have ew := hw_wrap h1 w1
    rw [ew]
    refine ⟨d91 (-1) _ hw.1 hw.2, rfl, rfl, SameK.same _, ?_⟩
    exact e50_0 g (g.h * g.w).toNat (by omega) (g.h * g.w).toNat 0 0 _ (Lab.start hc') (by omega) (by omega)

end Go.Proofs.YtnakmganodkliaaAm
