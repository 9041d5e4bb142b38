/- The contract of the reference's Parts. -/
import Derived.Test.YtnakmganodkliaaGrL
set_option linter.unusedVariables false
set_option linter.unusedSimpArgs false
set_option maxRecDepth 100000
namespace Go.Proofs.YtnakmganodkliaaAm
open Go

theorem con_forget2 {P : Program} {f : FuncId} {args : List D} {n k : Nat} {d : D} {e : TypeId} {t : Ty} {xs : List t.El} (hk : xs.length ≤ k) (h : Con P f [] args (.tup [.own 0 0 n (some k), d]) [] [.data e t xs]) : Con P f [] args (.tup [.own 0 0 n none, d]) [] [.data e t xs] := by
  refine ⟨h.fn, fun w ρ S vs M hargs => (h.run w ρ S vs M hargs).mono ?_⟩
  rintro ex w' ⟨v, ρ', S', h1, h2, h3⟩
  refine ⟨v, ρ', S', h1, h2, ?_⟩
  rw [RelD] at h3 ⊢
  obtain ⟨us, hu, h3⟩ := h3
  rw [RelDs] at h3
  obtain ⟨u, us', e1, h4, h5⟩ := h3
  refine ⟨us, hu, ?_⟩
  rw [RelDs]
  exact ⟨u, us', e1, own_forget (e := e) (t := t) (xs := xs) rfl (by omega) h4, h5⟩

/-- What a pass over the cells below j has seen. -/
structure Pass (g : Gr) (p : List Int) (n i j : Int) (ch : Bool) (U : Nat) : Prop where
  cur : Cur g p n i
  seen : ch = false → ∀ x, openF g x = true → x < j → pAt p x = n → ∀ y ∈ nearF g x, pAt p y = n
  less : ch = true → unl p < U
  le : unl p ≤ U

theorem Pass.mark {g : Gr} {p : List Int} {n i j x y : Int} {ch : Bool} {U : Nat} (P : Pass g p n i j ch U) (hx : openF g x = true) (hpx : pAt p x = n) (hn : y ∈ nearF g x) (hp : pAt p y < 0) : Pass g (p.set y.toNat n) n i j true U := by
  have oy := (near_back hn).2.1
  obtain ⟨_, y0, y1, _⟩ := open_in oy
  have hu := unl_set (p := p) (k := y.toNat) (n := n) P.cur.n0 (by have := P.cur.len; omega) hp
  have := P.le
  exact ⟨P.cur.mark hx hpx hn hp, fun h => (by cases h), fun _ => (by omega), (by omega)⟩

theorem e51_4 (g : Gr) (N U : Nat) (n i j : Int) (r : D × List (Option Row) × List Row) (hN : (N : Int) = g.h * g.w) (oj : openF g j = true)
    (IH : ∀ (p : List Int) (ch : Bool), Pass g p n i (j + 1) ch U → GetsK Try.prog Try.f51.results.toList [none, none] (KK g51) 0 r 3 (stOf 93 [1,4,5,7,8,9] [.ptr 0 0 0, .own 1 0 N (some N), .v (.int .i64 n), .v (.int .i64 i), .v (.bool ch), .v (.int .i64 (j + 1))] [.live (.box 35 [.v (.int .i64 g.h), .v (.int .i64 g.w), .sl false false .bool g.B, .sl false false .bool g.R, .sl false false .bool g.L]), .live (.data 3 (.int .i64) p)])) (L : List Int) (hL : L = nearF g j) (hl4 : L.length ≤ 4) (m : Nat) :
    ∀ (k : Int) (p : List Int) (ch : Bool), 0 ≤ k → k + m = L.length → Pass g p n i j ch U → pAt p j = n → (∀ y ∈ L.take k.toNat, pAt p y = n) → GetsK Try.prog Try.f51.results.toList [none, none] (KK g51) 0 r 4 (stOf 93 [1,4,5,7,8,9,10,11] [.ptr 0 0 0, .own 1 0 N (some N), .v (.int .i64 n), .v (.int .i64 i), .v (.bool ch), .v (.int .i64 j), .own 2 0 L.length none, .v (.int .i64 k)] [.live (.box 35 [.v (.int .i64 g.h), .v (.int .i64 g.w), .sl false false .bool g.B, .sl false false .bool g.R, .sl false false .bool g.L]), .live (.data 3 (.int .i64) p), .live (.data 3 (.int .i64) L)]) := by
  induction m with
  | zero =>
    intro k p ch k0 km P pj hs
    have hw := hw_in (chk0.1 P.cur.chk).1 (chk0.1 P.cur.chk).2.1
    obtain ⟨_, j0, j1, _⟩ := open_in oj
    refine gets_vc spP (fun k => [[1,4,5,6],[1,4,5,7],[1,4,5,7,8],[1,4,5,7,8,9],[1,4,5,7,8,9,10,11]].getD k []) (fun _ => []) 400 (.fork (.fork (.hd 4) (.hd 4)) (.hd 3)) (V := fun G R => (decide (k < (↑L.length : Int)) = true → (0 : Int) ≤ k ∧ k < (↑L.length : Int) ∧ 0 + k.toNat < L.length ∧ (0 : Int) ≤ L.getD (0 + k.toNat) (Ty.int IntKind.i64).dflt ∧ L.getD (0 + k.toNat) (Ty.int IntKind.i64).dflt < (↑N : Int) ∧ 0 + Int.toNat (L.getD (0 + k.toNat) (Ty.int IntKind.i64).dflt) < p.length ∧ (decide (p.getD (0 + Int.toNat (L.getD (0 + k.toNat) (Ty.int IntKind.i64).dflt)) (Ty.int IntKind.i64).dflt < (0 : Int)) = true → (0 : Int) ≤ k ∧ k < (↑L.length : Int) ∧ 0 + k.toNat < L.length ∧ (0 : Int) ≤ L.getD (0 + k.toNat) (Ty.int IntKind.i64).dflt ∧ L.getD (0 + k.toNat) (Ty.int IntKind.i64).dflt < (↑N : Int) ∧ 0 + Int.toNat (L.getD (0 + k.toNat) (Ty.int IntKind.i64).dflt) < p.length ∧ SameK (KK g51 4) (KK g51 4) ∧ G 4 (stOf 93 [1, 4, 5, 7, 8, 9, 10, 11] [D.ptr 0 0 0, D.own 1 0 N (some N), D.v (Value.int IntKind.i64 n), D.v (Value.int IntKind.i64 i), D.v (Value.bool true), D.v (Value.int IntKind.i64 j), D.own 2 0 L.length none, D.v (Value.int IntKind.i64 (IntKind.i64.wrap (k + (1 : Int))))] [Slot.live (Row.box 35 [D.v (Value.int IntKind.i64 g.h), D.v (Value.int IntKind.i64 g.w), D.sl false false Ty.bool g.B, D.sl false false Ty.bool g.R, D.sl false false Ty.bool g.L]), Slot.live (Row.data 3 (Ty.int IntKind.i64) (p.set (0 + Int.toNat (L.getD (0 + k.toNat) (Ty.int IntKind.i64).dflt)) n)), Slot.live (Row.data 3 (Ty.int IntKind.i64) L)])) ∧ (decide (p.getD (0 + Int.toNat (L.getD (0 + k.toNat) (Ty.int IntKind.i64).dflt)) (Ty.int IntKind.i64).dflt < (0 : Int)) = false → SameK (KK g51 4) (KK g51 4) ∧ G 4 (stOf 93 [1, 4, 5, 7, 8, 9, 10, 11] [D.ptr 0 0 0, D.own 1 0 N (some N), D.v (Value.int IntKind.i64 n), D.v (Value.int IntKind.i64 i), D.v (Value.bool ch), D.v (Value.int IntKind.i64 j), D.own 2 0 L.length none, D.v (Value.int IntKind.i64 (IntKind.i64.wrap (k + (1 : Int))))] [Slot.live (Row.box 35 [D.v (Value.int IntKind.i64 g.h), D.v (Value.int IntKind.i64 g.w), D.sl false false Ty.bool g.B, D.sl false false Ty.bool g.R, D.sl false false Ty.bool g.L]), Slot.live (Row.data 3 (Ty.int IntKind.i64) p), Slot.live (Row.data 3 (Ty.int IntKind.i64) L)]))) ∧ (decide (k < (↑L.length : Int)) = false → SameK (KK g51 3) (KK g51 3) ∧ G 3 (stOf 93 [1, 4, 5, 7, 8, 9] [D.ptr 0 0 0, D.own 1 0 N (some N), D.v (Value.int IntKind.i64 n), D.v (Value.int IntKind.i64 i), D.v (Value.bool ch), D.v (Value.int IntKind.i64 (IntKind.i64.wrap (j + (1 : Int))))] [Slot.live (Row.box 35 [D.v (Value.int IntKind.i64 g.h), D.v (Value.int IntKind.i64 g.w), D.sl false false Ty.bool g.B, D.sl false false Ty.bool g.R, D.sl false false Ty.bool g.L]), Slot.live (Row.data 3 (Ty.int IntKind.i64) p)]))) hmG (fun G R => by kernel_rfl) ?_
    try dsimp only
    refine ⟨fun hk => ?_, fun hk => ⟨SameK.same _, ?_⟩⟩
    · rw [decide_eq_true_eq] at hk; omega
    · rw [wrG (by omega) (by omega)]
      rw [List.take_of_length_le (by omega)] at hs
      refine IH p ch ⟨P.cur, fun hc x hx hxj hpx => ?_, P.less, P.le⟩
      by_cases h : x < j
      · exact P.seen hc x hx h hpx
      · have : x = j := by omega
        subst this
        rw [← hL]
        exact hs
  | succ m ih =>
    intro k p ch k0 km P pj hs
    have hd := drop_at (xs := L) (i := k) (0 : Int) k0 (by omega)
    have tk : L.take (k + 1).toNat = L.take k.toNat ++ [L.getD k.toNat 0] := by
      rw [show (k + 1).toNat = k.toNat + 1 by omega, List.take_add_one, List.getD_eq_getElem?_getD, List.getElem?_eq_getElem (by omega)]
      rfl
    have hy : L.getD k.toNat 0 ∈ nearF g j := by rw [← hL]; exact List.mem_of_mem_drop (i := k.toNat) (by rw [hd]; exact List.mem_cons_self)
    have oy := (near_back hy).2.1
    obtain ⟨_, y0, y1, _⟩ := open_in oy
    have pl : (p.length : Int) = N := by rw [hN]; exact P.cur.len
    refine gets_vc spP (fun k => [[1,4,5,6],[1,4,5,7],[1,4,5,7,8],[1,4,5,7,8,9],[1,4,5,7,8,9,10,11]].getD k []) (fun _ => []) 400 (.fork (.fork (.hd 4) (.hd 4)) (.hd 3)) (V := fun G R => (decide (k < (↑L.length : Int)) = true → (0 : Int) ≤ k ∧ k < (↑L.length : Int) ∧ 0 + k.toNat < L.length ∧ (0 : Int) ≤ L.getD (0 + k.toNat) (Ty.int IntKind.i64).dflt ∧ L.getD (0 + k.toNat) (Ty.int IntKind.i64).dflt < (↑N : Int) ∧ 0 + Int.toNat (L.getD (0 + k.toNat) (Ty.int IntKind.i64).dflt) < p.length ∧ (decide (p.getD (0 + Int.toNat (L.getD (0 + k.toNat) (Ty.int IntKind.i64).dflt)) (Ty.int IntKind.i64).dflt < (0 : Int)) = true → (0 : Int) ≤ k ∧ k < (↑L.length : Int) ∧ 0 + k.toNat < L.length ∧ (0 : Int) ≤ L.getD (0 + k.toNat) (Ty.int IntKind.i64).dflt ∧ L.getD (0 + k.toNat) (Ty.int IntKind.i64).dflt < (↑N : Int) ∧ 0 + Int.toNat (L.getD (0 + k.toNat) (Ty.int IntKind.i64).dflt) < p.length ∧ SameK (KK g51 4) (KK g51 4) ∧ G 4 (stOf 93 [1, 4, 5, 7, 8, 9, 10, 11] [D.ptr 0 0 0, D.own 1 0 N (some N), D.v (Value.int IntKind.i64 n), D.v (Value.int IntKind.i64 i), D.v (Value.bool true), D.v (Value.int IntKind.i64 j), D.own 2 0 L.length none, D.v (Value.int IntKind.i64 (IntKind.i64.wrap (k + (1 : Int))))] [Slot.live (Row.box 35 [D.v (Value.int IntKind.i64 g.h), D.v (Value.int IntKind.i64 g.w), D.sl false false Ty.bool g.B, D.sl false false Ty.bool g.R, D.sl false false Ty.bool g.L]), Slot.live (Row.data 3 (Ty.int IntKind.i64) (p.set (0 + Int.toNat (L.getD (0 + k.toNat) (Ty.int IntKind.i64).dflt)) n)), Slot.live (Row.data 3 (Ty.int IntKind.i64) L)])) ∧ (decide (p.getD (0 + Int.toNat (L.getD (0 + k.toNat) (Ty.int IntKind.i64).dflt)) (Ty.int IntKind.i64).dflt < (0 : Int)) = false → SameK (KK g51 4) (KK g51 4) ∧ G 4 (stOf 93 [1, 4, 5, 7, 8, 9, 10, 11] [D.ptr 0 0 0, D.own 1 0 N (some N), D.v (Value.int IntKind.i64 n), D.v (Value.int IntKind.i64 i), D.v (Value.bool ch), D.v (Value.int IntKind.i64 j), D.own 2 0 L.length none, D.v (Value.int IntKind.i64 (IntKind.i64.wrap (k + (1 : Int))))] [Slot.live (Row.box 35 [D.v (Value.int IntKind.i64 g.h), D.v (Value.int IntKind.i64 g.w), D.sl false false Ty.bool g.B, D.sl false false Ty.bool g.R, D.sl false false Ty.bool g.L]), Slot.live (Row.data 3 (Ty.int IntKind.i64) p), Slot.live (Row.data 3 (Ty.int IntKind.i64) L)]))) ∧ (decide (k < (↑L.length : Int)) = false → SameK (KK g51 3) (KK g51 3) ∧ G 3 (stOf 93 [1, 4, 5, 7, 8, 9] [D.ptr 0 0 0, D.own 1 0 N (some N), D.v (Value.int IntKind.i64 n), D.v (Value.int IntKind.i64 i), D.v (Value.bool ch), D.v (Value.int IntKind.i64 (IntKind.i64.wrap (j + (1 : Int))))] [Slot.live (Row.box 35 [D.v (Value.int IntKind.i64 g.h), D.v (Value.int IntKind.i64 g.w), D.sl false false Ty.bool g.B, D.sl false false Ty.bool g.R, D.sl false false Ty.bool g.L]), Slot.live (Row.data 3 (Ty.int IntKind.i64) p)]))) hmG (fun G R => by kernel_rfl) ?_
    try dsimp only
    simp only [Nat.zero_add, Ty.dflt]
    generalize hyy : L.getD k.toNat 0 = y at *
    rw [getD_pAt (p := p) (i := y) (by omega), wrG (by omega) (by omega)]
    have e : ∀ x, openF g x = true → pAt (p.set y.toNat n) x = if x = y then n else pAt p x := fun x hx => pAt_set (open_in hx).2.1 y0 (by omega)
    refine ⟨fun hk => ⟨by omega, by omega, by omega, by omega, by omega, by omega, fun hp => ⟨by omega, by omega, by omega, by omega, by omega, by omega, SameK.same _, ?_⟩, fun hp => ⟨SameK.same _, ?_⟩⟩, fun hk => ?_⟩
    · rw [decide_eq_true_eq] at hp
      refine ih (k + 1) _ true (by omega) (by omega) (P.mark oj pj hy hp) ?_ ?_
      · rw [e j oj]; split
        · rfl
        · exact pj
      · intro z hz
        rw [tk] at hz
        have oz : openF g z = true := by
          have : z ∈ L.take (k + 1).toNat := by rw [tk]; exact hz
          exact (near_back (hL ▸ List.mem_of_mem_take this)).2.1
        rw [e z oz]
        split
        · rfl
        · rcases List.mem_append.1 hz with h | h
          · exact hs z h
          · exact absurd (List.mem_singleton.1 h) (by assumption)
    · rw [decide_eq_false_iff_not] at hp
      refine ih (k + 1) p ch (by omega) (by omega) P pj ?_
      intro z hz
      rw [tk] at hz
      rcases List.mem_append.1 hz with h | h
      · exact hs z h
      · rw [List.mem_singleton.1 h]
        exact P.cur.beside oj pj hy (by omega)
    · rw [decide_eq_false_iff_not] at hk; omega

theorem e51_3 (g : Gr) (N U : Nat) (n i : Int) (r : D × List (Option Row) × List Row) (hN : (N : Int) = g.h * g.w)
    (IH : ∀ (p : List Int) (ch : Bool), Pass g p n i (g.h * g.w) ch U → GetsK Try.prog Try.f51.results.toList [none, none] (KK g51) 0 r 2 (stOf 93 [1,4,5,7,8] [.ptr 0 0 0, .own 1 0 N (some N), .v (.int .i64 n), .v (.int .i64 i), .v (.bool ch)] [.live (.box 35 [.v (.int .i64 g.h), .v (.int .i64 g.w), .sl false false .bool g.B, .sl false false .bool g.R, .sl false false .bool g.L]), .live (.data 3 (.int .i64) p)])) (m : Nat) :
    ∀ (j : Int) (p : List Int) (ch : Bool), 0 ≤ j → j + m = g.h * g.w → Pass g p n i j ch U → GetsK Try.prog Try.f51.results.toList [none, none] (KK g51) 0 r 3 (stOf 93 [1,4,5,7,8,9] [.ptr 0 0 0, .own 1 0 N (some N), .v (.int .i64 n), .v (.int .i64 i), .v (.bool ch), .v (.int .i64 j)] [.live (.box 35 [.v (.int .i64 g.h), .v (.int .i64 g.w), .sl false false .bool g.B, .sl false false .bool g.R, .sl false false .bool g.L]), .live (.data 3 (.int .i64) p)]) := by
  induction m with
  | zero =>
    intro j p ch j0 jm P
    refine gets_vc spP (fun k => [[1,4,5,6],[1,4,5,7],[1,4,5,7,8],[1,4,5,7,8,9],[1,4,5,7,8,9,10,11]].getD k []) (fun _ => []) 400 (.fork (.fork (.hd 3) (.hd 4)) (.hd 2)) (V := fun G R => (decide (j < (↑N : Int)) = true → (0 : Int) ≤ j ∧ j < (↑N : Int) ∧ 0 + j.toNat < p.length ∧ ((p.getD (0 + j.toNat) (Ty.int IntKind.i64).dflt != n) = true → SameK (KK g51 3) (KK g51 3) ∧ G 3 (stOf 93 [1, 4, 5, 7, 8, 9] [D.ptr 0 0 0, D.own 1 0 N (some N), D.v (Value.int IntKind.i64 n), D.v (Value.int IntKind.i64 i), D.v (Value.bool ch), D.v (Value.int IntKind.i64 (IntKind.i64.wrap (j + (1 : Int))))] [Slot.live (Row.box 35 [D.v (Value.int IntKind.i64 g.h), D.v (Value.int IntKind.i64 g.w), D.sl false false Ty.bool g.B, D.sl false false Ty.bool g.R, D.sl false false Ty.bool g.L]), Slot.live (Row.data 3 (Ty.int IntKind.i64) p)])) ∧ ((p.getD (0 + j.toNat) (Ty.int IntKind.i64).dflt != n) = false → Con Try.prog 40 [] [D.agg [D.v (Value.int IntKind.i64 g.h), D.v (Value.int IntKind.i64 g.w), D.sl false false Ty.bool g.B, D.sl false false Ty.bool g.R, D.sl false false Ty.bool g.L], D.v (Value.int IntKind.i64 j)] (D.own 0 0 (nearF g j).length none) [] [Row.data 3 (Ty.int IntKind.i64) (nearF g j)] ∧ Value.int IntKind.i64 g.h = Value.int IntKind.i64 g.h ∧ Value.int IntKind.i64 g.w = Value.int IntKind.i64 g.w ∧ g.B = g.B ∧ g.R = g.R ∧ g.L = g.L ∧ Value.int IntKind.i64 j = Value.int IntKind.i64 j ∧ SameK (KK g51 4) (KK g51 4) ∧ G 4 (stOf 93 [1, 4, 5, 7, 8, 9, 10, 11] [D.ptr 0 0 0, D.own 1 0 N (some N), D.v (Value.int IntKind.i64 n), D.v (Value.int IntKind.i64 i), D.v (Value.bool ch), D.v (Value.int IntKind.i64 j), D.own 2 0 (nearF g j).length none, D.v (Value.int IntKind.i64 (0 : Int))] [Slot.live (Row.box 35 [D.v (Value.int IntKind.i64 g.h), D.v (Value.int IntKind.i64 g.w), D.sl false false Ty.bool g.B, D.sl false false Ty.bool g.R, D.sl false false Ty.bool g.L]), Slot.live (Row.data 3 (Ty.int IntKind.i64) p), Slot.live (Row.data 3 (Ty.int IntKind.i64) (nearF g j))]))) ∧ (decide (j < (↑N : Int)) = false → SameK (KK g51 2) (KK g51 2) ∧ G 2 (stOf 93 [1, 4, 5, 7, 8] [D.ptr 0 0 0, D.own 1 0 N (some N), D.v (Value.int IntKind.i64 n), D.v (Value.int IntKind.i64 i), D.v (Value.bool ch)] [Slot.live (Row.box 35 [D.v (Value.int IntKind.i64 g.h), D.v (Value.int IntKind.i64 g.w), D.sl false false Ty.bool g.B, D.sl false false Ty.bool g.R, D.sl false false Ty.bool g.L]), Slot.live (Row.data 3 (Ty.int IntKind.i64) p)]))) hmG (fun G R => by kernel_rfl) ?_
    try dsimp only
    refine ⟨fun hk => ?_, fun hk => ⟨SameK.same _, ?_⟩⟩
    · rw [decide_eq_true_eq] at hk; omega
    · have : j = g.h * g.w := by omega
      subst this
      exact IH p ch P
  | succ m ih =>
    intro j p ch j0 jm P
    have hw := hw_in (chk0.1 P.cur.chk).1 (chk0.1 P.cur.chk).2.1
    have pl : (p.length : Int) = N := by rw [hN]; exact P.cur.len
    have n0 := P.cur.n0
    refine gets_vc spP (fun k => [[1,4,5,6],[1,4,5,7],[1,4,5,7,8],[1,4,5,7,8,9],[1,4,5,7,8,9,10,11]].getD k []) (fun _ => []) 400 (.fork (.fork (.hd 3) (.hd 4)) (.hd 2)) (V := fun G R => (decide (j < (↑N : Int)) = true → (0 : Int) ≤ j ∧ j < (↑N : Int) ∧ 0 + j.toNat < p.length ∧ ((p.getD (0 + j.toNat) (Ty.int IntKind.i64).dflt != n) = true → SameK (KK g51 3) (KK g51 3) ∧ G 3 (stOf 93 [1, 4, 5, 7, 8, 9] [D.ptr 0 0 0, D.own 1 0 N (some N), D.v (Value.int IntKind.i64 n), D.v (Value.int IntKind.i64 i), D.v (Value.bool ch), D.v (Value.int IntKind.i64 (IntKind.i64.wrap (j + (1 : Int))))] [Slot.live (Row.box 35 [D.v (Value.int IntKind.i64 g.h), D.v (Value.int IntKind.i64 g.w), D.sl false false Ty.bool g.B, D.sl false false Ty.bool g.R, D.sl false false Ty.bool g.L]), Slot.live (Row.data 3 (Ty.int IntKind.i64) p)])) ∧ ((p.getD (0 + j.toNat) (Ty.int IntKind.i64).dflt != n) = false → Con Try.prog 40 [] [D.agg [D.v (Value.int IntKind.i64 g.h), D.v (Value.int IntKind.i64 g.w), D.sl false false Ty.bool g.B, D.sl false false Ty.bool g.R, D.sl false false Ty.bool g.L], D.v (Value.int IntKind.i64 j)] (D.own 0 0 (nearF g j).length none) [] [Row.data 3 (Ty.int IntKind.i64) (nearF g j)] ∧ Value.int IntKind.i64 g.h = Value.int IntKind.i64 g.h ∧ Value.int IntKind.i64 g.w = Value.int IntKind.i64 g.w ∧ g.B = g.B ∧ g.R = g.R ∧ g.L = g.L ∧ Value.int IntKind.i64 j = Value.int IntKind.i64 j ∧ SameK (KK g51 4) (KK g51 4) ∧ G 4 (stOf 93 [1, 4, 5, 7, 8, 9, 10, 11] [D.ptr 0 0 0, D.own 1 0 N (some N), D.v (Value.int IntKind.i64 n), D.v (Value.int IntKind.i64 i), D.v (Value.bool ch), D.v (Value.int IntKind.i64 j), D.own 2 0 (nearF g j).length none, D.v (Value.int IntKind.i64 (0 : Int))] [Slot.live (Row.box 35 [D.v (Value.int IntKind.i64 g.h), D.v (Value.int IntKind.i64 g.w), D.sl false false Ty.bool g.B, D.sl false false Ty.bool g.R, D.sl false false Ty.bool g.L]), Slot.live (Row.data 3 (Ty.int IntKind.i64) p), Slot.live (Row.data 3 (Ty.int IntKind.i64) (nearF g j))]))) ∧ (decide (j < (↑N : Int)) = false → SameK (KK g51 2) (KK g51 2) ∧ G 2 (stOf 93 [1, 4, 5, 7, 8] [D.ptr 0 0 0, D.own 1 0 N (some N), D.v (Value.int IntKind.i64 n), D.v (Value.int IntKind.i64 i), D.v (Value.bool ch)] [Slot.live (Row.box 35 [D.v (Value.int IntKind.i64 g.h), D.v (Value.int IntKind.i64 g.w), D.sl false false Ty.bool g.B, D.sl false false Ty.bool g.R, D.sl false false Ty.bool g.L]), Slot.live (Row.data 3 (Ty.int IntKind.i64) p)]))) hmG (fun G R => by kernel_rfl) ?_
    try dsimp only
    simp only [Nat.zero_add, Ty.dflt]
    rw [getD_pAt (p := p) (i := j) (by omega), wrG (n := j + 1) (by omega) (by omega)]
    refine ⟨fun hk => ⟨by omega, by omega, by omega, fun hp => ⟨SameK.same _, ?_⟩, fun hp => ⟨d40 g j, trivial, trivial, trivial, trivial, trivial, trivial, SameK.same _, ?_⟩⟩, fun hk => ?_⟩
    · have hp' : pAt p j ≠ n := by simpa using hp
      refine ih (j + 1) p ch (by omega) (by omega) ⟨P.cur, fun hc x hx hxj hpx => ?_, P.less, P.le⟩
      refine P.seen hc x hx ?_ hpx
      have : x ≠ j := by rintro rfl; exact hp' hpx
      omega
    · have hp' : pAt p j = n := by simpa using hp
      have oj : openF g j = true := by
        rcases Bool.eq_false_or_eq_true (openF g j) with h | h
        · exact h
        · have := P.cur.off j j0 (by omega) h
          omega
      exact e51_4 g N U n i j r hN oj (fun p ch P => ih (j + 1) p ch (by omega) (by omega) P) _ rfl (near_le g j) _ 0 p ch (by omega) (Int.zero_add _) P hp' (by simp)
    · rw [decide_eq_false_iff_not] at hk; omega

theorem e51_2f (g : Gr) (N : Nat) (n i : Int) (r : D × List (Option Row) × List Row) (hn : n ≤ 300) (hi : i ≤ 300)
    (cont : ∀ p, Lab g p (n + 1) (i + 1) → GetsK Try.prog Try.f51.results.toList [none, none] (KK g51) 0 r 1 (stOf 93 [1,4,5,7] [.ptr 0 0 0, .own 1 0 N (some N), .v (.int .i64 (n + 1)), .v (.int .i64 (i + 1))] [.live (.box 35 [.v (.int .i64 g.h), .v (.int .i64 g.w), .sl false false .bool g.B, .sl false false .bool g.R, .sl false false .bool g.L]), .live (.data 3 (.int .i64) p)])) (p : List Int) (C : Cur g p n i) (hc : ∀ x, openF g x = true → pAt p x = n → ∀ y ∈ nearF g x, pAt p y = n) : GetsK Try.prog Try.f51.results.toList [none, none] (KK g51) 0 r 2 (stOf 93 [1,4,5,7,8] [.ptr 0 0 0, .own 1 0 N (some N), .v (.int .i64 n), .v (.int .i64 i), .v (.bool false)] [.live (.box 35 [.v (.int .i64 g.h), .v (.int .i64 g.w), .sl false false .bool g.B, .sl false false .bool g.R, .sl false false .bool g.L]), .live (.data 3 (.int .i64) p)]) := by
  have n0 := C.n0
  have i0 := (open_in C.oi).2.1
  refine gets_vc spP (fun k => [[1,4,5,6],[1,4,5,7],[1,4,5,7,8],[1,4,5,7,8,9],[1,4,5,7,8,9,10,11]].getD k []) (fun _ => []) 400 (.fork (.hd 3) (.hd 1)) (V := fun G R => (false = true → SameK (KK g51 3) (KK g51 3) ∧ G 3 (stOf 93 [1, 4, 5, 7, 8, 9] [D.ptr 0 0 0, D.own 1 0 N (some N), D.v (Value.int IntKind.i64 n), D.v (Value.int IntKind.i64 i), D.v (Value.bool false), D.v (Value.int IntKind.i64 (0 : Int))] [Slot.live (Row.box 35 [D.v (Value.int IntKind.i64 g.h), D.v (Value.int IntKind.i64 g.w), D.sl false false Ty.bool g.B, D.sl false false Ty.bool g.R, D.sl false false Ty.bool g.L]), Slot.live (Row.data 3 (Ty.int IntKind.i64) p)])) ∧ (false = false → SameK (KK g51 1) (KK g51 1) ∧ G 1 (stOf 93 [1, 4, 5, 7] [D.ptr 0 0 0, D.own 1 0 N (some N), D.v (Value.int IntKind.i64 (IntKind.i64.wrap (n + (1 : Int)))), D.v (Value.int IntKind.i64 (IntKind.i64.wrap (i + (1 : Int))))] [Slot.live (Row.box 35 [D.v (Value.int IntKind.i64 g.h), D.v (Value.int IntKind.i64 g.w), D.sl false false Ty.bool g.B, D.sl false false Ty.bool g.R, D.sl false false Ty.bool g.L]), Slot.live (Row.data 3 (Ty.int IntKind.i64) p)]))) hmG (fun G R => by kernel_rfl) ?_
  try dsimp only
  refine ⟨fun h => (by cases h), fun _ => ⟨SameK.same _, ?_⟩⟩
  rw [wrG (by omega) (by omega), wrG (by omega) (by omega)]
  exact cont p (C.fin hc)

theorem e51_2 (g : Gr) (N : Nat) (n i : Int) (r : D × List (Option Row) × List Row) (hN : (N : Int) = g.h * g.w) (hn : n ≤ 300) (hi : i ≤ 300)
    (cont : ∀ p, Lab g p (n + 1) (i + 1) → GetsK Try.prog Try.f51.results.toList [none, none] (KK g51) 0 r 1 (stOf 93 [1,4,5,7] [.ptr 0 0 0, .own 1 0 N (some N), .v (.int .i64 (n + 1)), .v (.int .i64 (i + 1))] [.live (.box 35 [.v (.int .i64 g.h), .v (.int .i64 g.w), .sl false false .bool g.B, .sl false false .bool g.R, .sl false false .bool g.L]), .live (.data 3 (.int .i64) p)])) (U : Nat) :
    ∀ (p : List Int), Cur g p n i → unl p < U → GetsK Try.prog Try.f51.results.toList [none, none] (KK g51) 0 r 2 (stOf 93 [1,4,5,7,8] [.ptr 0 0 0, .own 1 0 N (some N), .v (.int .i64 n), .v (.int .i64 i), .v (.bool true)] [.live (.box 35 [.v (.int .i64 g.h), .v (.int .i64 g.w), .sl false false .bool g.B, .sl false false .bool g.R, .sl false false .bool g.L]), .live (.data 3 (.int .i64) p)]) := by
  induction U with
  | zero => intro p C hu; omega
  | succ U ih =>
    intro p C hu
    have hw := hw_in (chk0.1 C.chk).1 (chk0.1 C.chk).2.1
    refine gets_vc spP (fun k => [[1,4,5,6],[1,4,5,7],[1,4,5,7,8],[1,4,5,7,8,9],[1,4,5,7,8,9,10,11]].getD k []) (fun _ => []) 400 (.fork (.hd 3) (.hd 1)) (V := fun G R => (true = true → SameK (KK g51 3) (KK g51 3) ∧ G 3 (stOf 93 [1, 4, 5, 7, 8, 9] [D.ptr 0 0 0, D.own 1 0 N (some N), D.v (Value.int IntKind.i64 n), D.v (Value.int IntKind.i64 i), D.v (Value.bool false), D.v (Value.int IntKind.i64 (0 : Int))] [Slot.live (Row.box 35 [D.v (Value.int IntKind.i64 g.h), D.v (Value.int IntKind.i64 g.w), D.sl false false Ty.bool g.B, D.sl false false Ty.bool g.R, D.sl false false Ty.bool g.L]), Slot.live (Row.data 3 (Ty.int IntKind.i64) p)])) ∧ (true = false → SameK (KK g51 1) (KK g51 1) ∧ G 1 (stOf 93 [1, 4, 5, 7] [D.ptr 0 0 0, D.own 1 0 N (some N), D.v (Value.int IntKind.i64 (IntKind.i64.wrap (n + (1 : Int)))), D.v (Value.int IntKind.i64 (IntKind.i64.wrap (i + (1 : Int))))] [Slot.live (Row.box 35 [D.v (Value.int IntKind.i64 g.h), D.v (Value.int IntKind.i64 g.w), D.sl false false Ty.bool g.B, D.sl false false Ty.bool g.R, D.sl false false Ty.bool g.L]), Slot.live (Row.data 3 (Ty.int IntKind.i64) p)]))) hmG (fun G R => by kernel_rfl) ?_
    try dsimp only
    refine ⟨fun _ => ⟨SameK.same _, ?_⟩, fun h => (by cases h)⟩
    refine e51_3 g N (unl p) n i r hN ?_ (g.h * g.w).toNat 0 p false (by omega) (by omega) ⟨C, fun _ x hx hl => ?_, fun h => (by cases h), Nat.le_refl _⟩
    · intro p' ch' P
      cases ch' with
      | false => exact e51_2f g N n i r hn hi cont p' P.cur (fun x hx => P.seen rfl x hx (open_in hx).2.2.1)
      | true =>
        have := P.less rfl
        exact ih p' P.cur (by omega)
    · have := (open_in hx).2.1
      omega

theorem e51_1 (g : Gr) (N : Nat) (hN : (N : Int) = g.h * g.w) (m : Nat) : ∀ (i n : Int) (p : List Int), Lab g p n i → n ≤ i → i + m = g.h * g.w →
    GetsK Try.prog Try.f51.results.toList [none, none] (KK g51) 0 (.tup [.own 0 0 N (some N), .v (.int .i64 (partsF g).2)], [], [.data 3 (.int .i64) (partsF g).1]) 1 (stOf 93 [1,4,5,7] [.ptr 0 0 0, .own 1 0 N (some N), .v (.int .i64 n), .v (.int .i64 i)] [.live (.box 35 [.v (.int .i64 g.h), .v (.int .i64 g.w), .sl false false .bool g.B, .sl false false .bool g.R, .sl false false .bool g.L]), .live (.data 3 (.int .i64) p)]) := by
  induction m with
  | zero =>
    intro i n p L hn im
    have e := partsF_eq L.chk (L.fin (by omega))
    refine gets_vc spP (fun k => [[1,4,5,6],[1,4,5,7],[1,4,5,7,8],[1,4,5,7,8,9],[1,4,5,7,8,9,10,11]].getD k []) (fun _ => []) 400 (.fork (.fork (.t (.hd 1)) (.fork (.hd 1) (.hd 2))) .stop) (V := fun G R => (decide (i < (↑N : Int)) = true → (0 : Int) ≤ i ∧ i < (↑g.B.length : Int) ∧ (g.B.getD i.toNat Ty.bool.dflt = true → true = true ∧ SameK (KK g51 1) (KK g51 1) ∧ G 1 (stOf 93 [1, 4, 5, 7] [D.ptr 0 0 0, D.own 1 0 N (some N), D.v (Value.int IntKind.i64 n), D.v (Value.int IntKind.i64 (IntKind.i64.wrap (i + (1 : Int))))] [Slot.live (Row.box 35 [D.v (Value.int IntKind.i64 g.h), D.v (Value.int IntKind.i64 g.w), D.sl false false Ty.bool g.B, D.sl false false Ty.bool g.R, D.sl false false Ty.bool g.L]), Slot.live (Row.data 3 (Ty.int IntKind.i64) p)])) ∧ (g.B.getD i.toNat Ty.bool.dflt = false → (0 : Int) ≤ i ∧ i < (↑N : Int) ∧ 0 + i.toNat < p.length ∧ (decide (p.getD (0 + i.toNat) (Ty.int IntKind.i64).dflt ≥ (0 : Int)) = true → SameK (KK g51 1) (KK g51 1) ∧ G 1 (stOf 93 [1, 4, 5, 7] [D.ptr 0 0 0, D.own 1 0 N (some N), D.v (Value.int IntKind.i64 n), D.v (Value.int IntKind.i64 (IntKind.i64.wrap (i + (1 : Int))))] [Slot.live (Row.box 35 [D.v (Value.int IntKind.i64 g.h), D.v (Value.int IntKind.i64 g.w), D.sl false false Ty.bool g.B, D.sl false false Ty.bool g.R, D.sl false false Ty.bool g.L]), Slot.live (Row.data 3 (Ty.int IntKind.i64) p)])) ∧ (decide (p.getD (0 + i.toNat) (Ty.int IntKind.i64).dflt ≥ (0 : Int)) = false → (0 : Int) ≤ i ∧ i < (↑N : Int) ∧ 0 + i.toNat < p.length ∧ SameK (KK g51 2) (KK g51 2) ∧ G 2 (stOf 93 [1, 4, 5, 7, 8] [D.ptr 0 0 0, D.own 1 0 N (some N), D.v (Value.int IntKind.i64 n), D.v (Value.int IntKind.i64 i), D.v (Value.bool true)] [Slot.live (Row.box 35 [D.v (Value.int IntKind.i64 g.h), D.v (Value.int IntKind.i64 g.w), D.sl false false Ty.bool g.B, D.sl false false Ty.bool g.R, D.sl false false Ty.bool g.L]), Slot.live (Row.data 3 (Ty.int IntKind.i64) (p.set (0 + i.toNat) n))])))) ∧ (decide (i < (↑N : Int)) = false → R (D.tup [D.own 0 0 N (some N), D.v (Value.int IntKind.i64 n)], [], [Row.data 3 (Ty.int IntKind.i64) p]))) hmG (fun G R => by kernel_rfl) ?_
    try dsimp only
    refine ⟨fun hl => ?_, fun hl => ?_⟩
    · rw [decide_eq_true_eq] at hl; omega
    · rw [e]
  | succ m ih =>
    intro i n p L hn im
    obtain ⟨h1, w1, sz, _⟩ := chk0.1 L.chk
    have hw := hw_in h1 w1
    obtain ⟨s1, _⟩ := size3 sz
    have i0 := L.i0
    have n0 := L.n0
    have pl : (p.length : Int) = N := by rw [hN]; exact L.len
    refine gets_vc spP (fun k => [[1,4,5,6],[1,4,5,7],[1,4,5,7,8],[1,4,5,7,8,9],[1,4,5,7,8,9,10,11]].getD k []) (fun _ => []) 400 (.fork (.fork (.t (.hd 1)) (.fork (.hd 1) (.hd 2))) .stop) (V := fun G R => (decide (i < (↑N : Int)) = true → (0 : Int) ≤ i ∧ i < (↑g.B.length : Int) ∧ (g.B.getD i.toNat Ty.bool.dflt = true → true = true ∧ SameK (KK g51 1) (KK g51 1) ∧ G 1 (stOf 93 [1, 4, 5, 7] [D.ptr 0 0 0, D.own 1 0 N (some N), D.v (Value.int IntKind.i64 n), D.v (Value.int IntKind.i64 (IntKind.i64.wrap (i + (1 : Int))))] [Slot.live (Row.box 35 [D.v (Value.int IntKind.i64 g.h), D.v (Value.int IntKind.i64 g.w), D.sl false false Ty.bool g.B, D.sl false false Ty.bool g.R, D.sl false false Ty.bool g.L]), Slot.live (Row.data 3 (Ty.int IntKind.i64) p)])) ∧ (g.B.getD i.toNat Ty.bool.dflt = false → (0 : Int) ≤ i ∧ i < (↑N : Int) ∧ 0 + i.toNat < p.length ∧ (decide (p.getD (0 + i.toNat) (Ty.int IntKind.i64).dflt ≥ (0 : Int)) = true → SameK (KK g51 1) (KK g51 1) ∧ G 1 (stOf 93 [1, 4, 5, 7] [D.ptr 0 0 0, D.own 1 0 N (some N), D.v (Value.int IntKind.i64 n), D.v (Value.int IntKind.i64 (IntKind.i64.wrap (i + (1 : Int))))] [Slot.live (Row.box 35 [D.v (Value.int IntKind.i64 g.h), D.v (Value.int IntKind.i64 g.w), D.sl false false Ty.bool g.B, D.sl false false Ty.bool g.R, D.sl false false Ty.bool g.L]), Slot.live (Row.data 3 (Ty.int IntKind.i64) p)])) ∧ (decide (p.getD (0 + i.toNat) (Ty.int IntKind.i64).dflt ≥ (0 : Int)) = false → (0 : Int) ≤ i ∧ i < (↑N : Int) ∧ 0 + i.toNat < p.length ∧ SameK (KK g51 2) (KK g51 2) ∧ G 2 (stOf 93 [1, 4, 5, 7, 8] [D.ptr 0 0 0, D.own 1 0 N (some N), D.v (Value.int IntKind.i64 n), D.v (Value.int IntKind.i64 i), D.v (Value.bool true)] [Slot.live (Row.box 35 [D.v (Value.int IntKind.i64 g.h), D.v (Value.int IntKind.i64 g.w), D.sl false false Ty.bool g.B, D.sl false false Ty.bool g.R, D.sl false false Ty.bool g.L]), Slot.live (Row.data 3 (Ty.int IntKind.i64) (p.set (0 + i.toNat) n))])))) ∧ (decide (i < (↑N : Int)) = false → R (D.tup [D.own 0 0 N (some N), D.v (Value.int IntKind.i64 n)], [], [Row.data 3 (Ty.int IntKind.i64) p]))) hmG (fun G R => by kernel_rfl) ?_
    try dsimp only
    simp only [Nat.zero_add, Ty.dflt]
    rw [getD_pAt (by omega), wrG (by omega) (by omega)]
    refine ⟨fun hl => ⟨by omega, by omega, fun hb => ⟨trivial, SameK.same _, ?_⟩, fun hb => ⟨by omega, by omega, by omega, fun hp => ⟨SameK.same _, ?_⟩, fun hp => ⟨by omega, by omega, by omega, SameK.same _, ?_⟩⟩⟩, fun hl => ?_⟩
    · exact ih (i + 1) n p (L.skip (.inr hb)) (by omega) (by omega)
    · rw [decide_eq_true_eq] at hp
      exact ih (i + 1) n p (L.skip (.inl hp)) (by omega) (by omega)
    · rw [decide_eq_false_iff_not] at hp
      have ho : openF g i = true := by rw [open_of L.chk i0 (by omega), show bAt g.B i = false from hb]; rfl
      exact e51_2 g N n i _ hN (by omega) (by omega) (fun p' L' => ih (i + 1) (n + 1) p' L' (by omega) (by omega)) _ _ (L.begin ho (by omega)) (Nat.lt_succ_self _)
    · rw [decide_eq_false_iff_not] at hl; omega

theorem set_neg {i : Nat} {n : Nat} {z : List Int} (h : i < n) (hz : z.length = n - i) : (List.replicate i (-1 : Int) ++ z).set i (-1) = List.replicate (i + 1) (-1) ++ z.drop 1 := by
  cases z with
  | nil => simp at hz; omega
  | cons a z =>
    rw [List.set_append_right _ _ (by simp)]
    simp [List.replicate_succ', List.append_assoc]

theorem e51_0 (g : Gr) (N : Nat) (hN : (N : Int) = g.h * g.w) (hc : checkF g = 0) (m : Nat) : ∀ (i : Int) (z : List Int), 0 ≤ i → z.length = m → i + m = N →
    GetsK Try.prog Try.f51.results.toList [none, none] (KK g51) 0 (.tup [.own 0 0 N (some N), .v (.int .i64 (partsF g).2)], [], [.data 3 (.int .i64) (partsF g).1]) 0 (stOf 93 [1,4,5,6] [.ptr 0 0 0, .own 1 0 N (some N), .v (.int .i64 0), .v (.int .i64 i)] [.live (.box 35 [.v (.int .i64 g.h), .v (.int .i64 g.w), .sl false false .bool g.B, .sl false false .bool g.R, .sl false false .bool g.L]), .live (.data 3 (.int .i64) (List.replicate i.toNat (-1) ++ z))]) := by
  induction m with
  | zero =>
    intro i z i0 hz im
    generalize hp : List.replicate i.toNat (-1 : Int) ++ z = p
    refine gets_vc spP (fun k => [[1,4,5,6],[1,4,5,7],[1,4,5,7,8],[1,4,5,7,8,9],[1,4,5,7,8,9,10,11]].getD k []) (fun _ => []) 400 (.fork (.hd 0) (.hd 1)) (V := fun G R => (decide (i < (↑N : Int)) = true → (0 : Int) ≤ i ∧ i < (↑N : Int) ∧ 0 + i.toNat < p.length ∧ SameK (KK g51 0) (KK g51 0) ∧ G 0 (stOf 93 [1, 4, 5, 6] [D.ptr 0 0 0, D.own 1 0 N (some N), D.v (Value.int IntKind.i64 (0 : Int)), D.v (Value.int IntKind.i64 (IntKind.i64.wrap (i + (1 : Int))))] [Slot.live (Row.box 35 [D.v (Value.int IntKind.i64 g.h), D.v (Value.int IntKind.i64 g.w), D.sl false false Ty.bool g.B, D.sl false false Ty.bool g.R, D.sl false false Ty.bool g.L]), Slot.live (Row.data 3 (Ty.int IntKind.i64) (p.set (0 + i.toNat) (-1 : Int)))])) ∧ (decide (i < (↑N : Int)) = false → SameK (KK g51 1) (KK g51 1) ∧ G 1 (stOf 93 [1, 4, 5, 7] [D.ptr 0 0 0, D.own 1 0 N (some N), D.v (Value.int IntKind.i64 (0 : Int)), D.v (Value.int IntKind.i64 (0 : Int))] [Slot.live (Row.box 35 [D.v (Value.int IntKind.i64 g.h), D.v (Value.int IntKind.i64 g.w), D.sl false false Ty.bool g.B, D.sl false false Ty.bool g.R, D.sl false false Ty.bool g.L]), Slot.live (Row.data 3 (Ty.int IntKind.i64) p)]))) hmG (fun G R => by kernel_rfl) ?_
    subst hp
    try dsimp only
    refine ⟨fun hl => ?_, fun hl => ⟨SameK.same _, ?_⟩⟩
    · rw [decide_eq_true_eq] at hl; omega
    · have e : z = [] := List.length_eq_zero_iff.1 hz
      subst e
      rw [List.append_nil, show i.toNat = (g.h * g.w).toNat by omega]
      exact e51_1 g N hN (g.h * g.w).toNat 0 0 _ (Lab.start hc) (by omega) (by omega)
  | succ m ih =>
    intro i z i0 hz im
    obtain ⟨h1, w1, _, _⟩ := chk0.1 hc
    have hw := hw_in h1 w1
    generalize hp : List.replicate i.toNat (-1 : Int) ++ z = p
    refine gets_vc spP (fun k => [[1,4,5,6],[1,4,5,7],[1,4,5,7,8],[1,4,5,7,8,9],[1,4,5,7,8,9,10,11]].getD k []) (fun _ => []) 400 (.fork (.hd 0) (.hd 1)) (V := fun G R => (decide (i < (↑N : Int)) = true → (0 : Int) ≤ i ∧ i < (↑N : Int) ∧ 0 + i.toNat < p.length ∧ SameK (KK g51 0) (KK g51 0) ∧ G 0 (stOf 93 [1, 4, 5, 6] [D.ptr 0 0 0, D.own 1 0 N (some N), D.v (Value.int IntKind.i64 (0 : Int)), D.v (Value.int IntKind.i64 (IntKind.i64.wrap (i + (1 : Int))))] [Slot.live (Row.box 35 [D.v (Value.int IntKind.i64 g.h), D.v (Value.int IntKind.i64 g.w), D.sl false false Ty.bool g.B, D.sl false false Ty.bool g.R, D.sl false false Ty.bool g.L]), Slot.live (Row.data 3 (Ty.int IntKind.i64) (p.set (0 + i.toNat) (-1 : Int)))])) ∧ (decide (i < (↑N : Int)) = false → SameK (KK g51 1) (KK g51 1) ∧ G 1 (stOf 93 [1, 4, 5, 7] [D.ptr 0 0 0, D.own 1 0 N (some N), D.v (Value.int IntKind.i64 (0 : Int)), D.v (Value.int IntKind.i64 (0 : Int))] [Slot.live (Row.box 35 [D.v (Value.int IntKind.i64 g.h), D.v (Value.int IntKind.i64 g.w), D.sl false false Ty.bool g.B, D.sl false false Ty.bool g.R, D.sl false false Ty.bool g.L]), Slot.live (Row.data 3 (Ty.int IntKind.i64) p)]))) hmG (fun G R => by kernel_rfl) ?_
    subst hp
    try dsimp only
    simp only [Nat.zero_add]
    rw [wrG (by omega) (by omega)]
    refine ⟨fun hl => ⟨by omega, by omega, by rw [List.length_append, List.length_replicate, hz]; omega, SameK.same _, ?_⟩, fun hl => ?_⟩
    · rw [set_neg (n := i.toNat + (m + 1)) (by omega) (by omega), show i.toNat + 1 = (i + 1).toNat by omega]
      exact ih (i + 1) _ (by omega) (by simp [hz]) (by omega)
    · rw [decide_eq_false_iff_not] at hl; omega

theorem d51y (g : Gr) (hc : checkF g = 0) : Con Try.prog 51 [] [g.d] ((.tup [.own 0 0 (g.h * g.w).toNat (some (g.h * g.w).toNat), .v (.int .i64 (partsF g).2)])) [] [.data 3 (.int .i64) (partsF g).1] := by
  refine con_vc (how := [none, none]) (c := g51) (K := (KK g51)) spP (fun k => [[1,4,5,6],[1,4,5,7],[1,4,5,7,8],[1,4,5,7,8,9],[1,4,5,7,8,9,10,11]].getD k []) (fun _ => []) 400 (.fork .stop (.hd 0)) (V := fun G R => Con Try.prog 44 [] [D.agg [D.v (Value.int IntKind.i64 g.h), D.v (Value.int IntKind.i64 g.w), D.sl false false Ty.bool g.B, D.sl false false Ty.bool g.R, D.sl false false Ty.bool g.L]] (D.v (Value.int IntKind.i64 (checkF g))) [] [] ∧ Value.int IntKind.i64 g.h = Value.int IntKind.i64 g.h ∧ Value.int IntKind.i64 g.w = Value.int IntKind.i64 g.w ∧ g.B = g.B ∧ g.R = g.R ∧ g.L = g.L ∧ ((checkF g != (0 : Int)) = true → R (D.tup [D.v (Value.slice none 0 0), D.v (Value.int IntKind.i64 (0 : Int))], [], [])) ∧ ((checkF g != (0 : Int)) = false → (0 : Int) ≤ IntKind.i64.wrap (g.h * g.w) ∧ IntKind.i64.wrap (g.h * g.w) ≤ IntKind.i64.wrap (g.h * g.w) ∧ IntKind.i64.wrap (g.h * g.w) ≤ (9223372036854775807 : Int) ∧ (IntKind.i64.wrap (g.h * g.w)).toNat * 8 ≤ 281474976710656 ∧ SameK (KK g51 0) (KK g51 0) ∧ G 0 (stOf 93 [1, 4, 5, 6] [D.ptr 0 0 0, D.own 1 0 (IntKind.i64.wrap (g.h * g.w)).toNat (some (IntKind.i64.wrap (g.h * g.w)).toNat), D.v (Value.int IntKind.i64 (0 : Int)), D.v (Value.int IntKind.i64 (0 : Int))] [Slot.live (Row.box 35 [D.v (Value.int IntKind.i64 g.h), D.v (Value.int IntKind.i64 g.w), D.sl false false Ty.bool g.B, D.sl false false Ty.bool g.R, D.sl false false Ty.bool g.L]), Slot.live (Row.data 3 (Ty.int IntKind.i64) (List.replicate (IntKind.i64.wrap (g.h * g.w)).toNat (0 : Int)))]))) hmG Try.func51 (by kernel_rfl) (by kernel_rfl) (fun G R => by kernel_rfl) ?_
  try dsimp only
  refine ⟨d44 g, rfl, rfl, rfl, rfl, rfl, fun h => ?_, fun h => ?_⟩
  · simp [hc] at h
  · obtain ⟨h1, w1, _, _⟩ := chk0.1 hc
    have hw := hw_in h1 w1
    have ew := hw_wrap h1 w1
    rw [ew]
    refine ⟨by omega, by omega, by omega, by omega, SameK.same _, ?_⟩
    exact e51_0 g (g.h * g.w).toNat (by omega) hc (g.h * g.w).toNat 0 _ (by omega) (by simp) (by omega)
theorem d51n (g : Gr) (hc : checkF g ≠ 0) : Con Try.prog 51 [] [g.d] ((.tup [.own 0 0 0 none, .v (.int .i64 0)])) [] [.data 3 (.int .i64) []] := by
  refine con_vc (how := [none, none]) (c := g51) (K := (KK g51)) spP (fun k => [[1,4,5,6],[1,4,5,7],[1,4,5,7,8],[1,4,5,7,8,9],[1,4,5,7,8,9,10,11]].getD k []) (fun k => if k = 99 then [⟨2, 3, .int .i64⟩] else []) 400 (.fork .stop (.hd 0)) (V := fun G R => Con Try.prog 44 [] [D.agg [D.v (Value.int IntKind.i64 g.h), D.v (Value.int IntKind.i64 g.w), D.sl false false Ty.bool g.B, D.sl false false Ty.bool g.R, D.sl false false Ty.bool g.L]] (D.v (Value.int IntKind.i64 (checkF g))) [] [] ∧ Value.int IntKind.i64 g.h = Value.int IntKind.i64 g.h ∧ Value.int IntKind.i64 g.w = Value.int IntKind.i64 g.w ∧ g.B = g.B ∧ g.R = g.R ∧ g.L = g.L ∧ ((checkF g != (0 : Int)) = true → R (D.tup [D.own 0 0 0 none, D.v (Value.int IntKind.i64 (0 : Int))], [], [Row.data 3 (Ty.int IntKind.i64) []])) ∧ ((checkF g != (0 : Int)) = false → (0 : Int) ≤ IntKind.i64.wrap (g.h * g.w) ∧ IntKind.i64.wrap (g.h * g.w) ≤ IntKind.i64.wrap (g.h * g.w) ∧ IntKind.i64.wrap (g.h * g.w) ≤ (9223372036854775807 : Int) ∧ (IntKind.i64.wrap (g.h * g.w)).toNat * 8 ≤ 281474976710656 ∧ SameK (KK g51 0) (KK g51 0) ∧ G 0 (stOf 93 [1, 4, 5, 6] [D.ptr 0 0 0, D.own 1 0 (IntKind.i64.wrap (g.h * g.w)).toNat (some (IntKind.i64.wrap (g.h * g.w)).toNat), D.v (Value.int IntKind.i64 (0 : Int)), D.v (Value.int IntKind.i64 (0 : Int))] [Slot.live (Row.box 35 [D.v (Value.int IntKind.i64 g.h), D.v (Value.int IntKind.i64 g.w), D.sl false false Ty.bool g.B, D.sl false false Ty.bool g.R, D.sl false false Ty.bool g.L]), Slot.live (Row.data 3 (Ty.int IntKind.i64) (List.replicate (IntKind.i64.wrap (g.h * g.w)).toNat (0 : Int)))]))) hmG Try.func51 (by kernel_rfl) (by kernel_rfl) (fun G R => by kernel_rfl) ?_
  try dsimp only
  refine ⟨d44 g, rfl, rfl, rfl, rfl, rfl, fun h => ?_, fun h => ?_⟩
  · rfl
  · simp_all
theorem d51 (g : Gr) : Con Try.prog 51 [] [g.d] (.tup [.own 0 0 (partsF g).1.length none, .v (.int .i64 (partsF g).2)]) [] [.data 3 (.int .i64) (partsF g).1] := by
  by_cases hc : checkF g = 0
  · have hp := parts_are hc
    have e : (partsF g).1.length = (g.h * g.w).toNat := by have := hp.len; omega
    have := con_forget2 (by omega) (d51y g hc)
    rw [e]
    exact this
  · rw [parts_off hc]
    exact d51n g hc


end Go.Proofs.YtnakmganodkliaaAm
