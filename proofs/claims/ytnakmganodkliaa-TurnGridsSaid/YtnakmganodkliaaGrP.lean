/- The contract of the law on what steps reach. -/
import Derived.Test.YtnakmganodkliaaGrO
set_option linter.unusedVariables false
set_option linter.unusedSimpArgs false
set_option maxRecDepth 100000
namespace Go.Proofs.YtnakmganodkliaaAm
open Go

theorem bAt_set {s : List Bool} {x y : Int} {b : Bool} (x0 : 0 ≤ x) (y0 : 0 ≤ y) (yl : y < s.length) : bAt (s.set y.toNat b) x = if x = y then b else bAt s x := by
  unfold bAt
  rw [List.getD_eq_getElem?_getD, List.getD_eq_getElem?_getD, List.getElem?_set]
  by_cases h : x = y
  · subst h
    rw [if_pos rfl, if_pos rfl, if_pos (by omega)]
    rfl
  · rw [if_neg (by omega), if_neg h]

/-- How many cells are not seen yet. -/
def uns (s : List Bool) : Nat := (s.filter fun c => !c).length

theorem uns_set : ∀ {s : List Bool} {k : Nat}, k < s.length → s.getD k false = false → uns (s.set k true) + 1 = uns s
  | [], k, hk, _ => by simp at hk
  | c :: s, 0, hk, hc => by
    simp only [List.getD_cons_zero] at hc
    simp [uns, List.filter_cons, hc]
  | c :: s, k + 1, hk, hc => by
    simp only [List.getD_cons_succ] at hc
    have ih := uns_set (s := s) (k := k) (by simpa using hk) hc
    simp only [uns, List.set_cons_succ, List.filter_cons] at ih ⊢
    split <;> (try simp only [List.length_cons]) <;> omega

/-- What has been seen from one cell, and which cells are still to be looked at. -/
structure Seen (g : Gr) (a : Int) (s : List Bool) (o l : Nat) (ts : List Int) : Prop where
  len : (s.length : Int) = g.h * g.w
  here : bAt s a = true
  ok : ∀ x, 0 ≤ x → x < g.h * g.w → bAt s x = true → openF g x = true ∧ Rch g a x
  ol : o + l = ts.length
  td : ∀ x ∈ ts.drop o, openF g x = true ∧ bAt s x = true
  fr : ∀ x, openF g x = true → bAt s x = true → x ∈ ts.drop o ∨ ∀ y ∈ nearF g x, bAt s y = true

structure SeenL (g : Gr) (a : Int) (s : List Bool) (o l : Nat) (ts : List Int) (at' : Int) (L : List Int) : Prop where
  len : (s.length : Int) = g.h * g.w
  here : bAt s a = true
  ok : ∀ x, 0 ≤ x → x < g.h * g.w → bAt s x = true → openF g x = true ∧ Rch g a x
  ol : o + l = ts.length
  l1 : 1 ≤ l
  td : ∀ x ∈ ts.drop o, openF g x = true ∧ bAt s x = true
  oat : openF g at' = true
  sat : bAt s at' = true
  near : ∀ y ∈ L, y ∈ nearF g at'
  fr : ∀ x, openF g x = true → bAt s x = true → x ∈ ts.drop (o + 1) ∨ (x = at' ∧ ∀ y ∈ nearF g x, y ∈ L ∨ bAt s y = true) ∨ ∀ y ∈ nearF g x, bAt s y = true

theorem SeenL.fin {g : Gr} {a : Int} {s : List Bool} {o l : Nat} {ts : List Int} {c : Int} (K : SeenL g a s o l ts c []) : Seen g a s (o + 1) (l - 1) ts := by
  refine ⟨K.len, K.here, K.ok, by have := K.ol; have := K.l1; omega, fun x hx => K.td x ?_, fun x hx hp => ?_⟩
  · rw [← List.drop_drop] at hx
    exact List.mem_of_mem_drop hx
  rcases K.fr x hx hp with h | ⟨_, h⟩ | h
  · exact .inl h
  · exact .inr fun y hy => (h y hy).resolve_left (by simp)
  · exact .inr h

theorem Seen.look {g : Gr} {a : Int} {s : List Bool} {o l : Nat} {ts : List Int} (T : Seen g a s o l ts) (hl : 0 < l) : SeenL g a s o l ts (ts.getD o 0) (nearF g (ts.getD o 0)) := by
  have ho : o < ts.length := by have := T.ol; omega
  have hd : ts.drop o = ts.getD o 0 :: ts.drop (o + 1) := by
    rw [List.drop_eq_getElem_cons ho, List.getD_eq_getElem?_getD, List.getElem?_eq_getElem ho]
    rfl
  have h0 := T.td (ts.getD o 0) (by rw [hd]; exact List.mem_cons_self)
  refine ⟨T.len, T.here, T.ok, T.ol, hl, T.td, h0.1, h0.2, fun y hy => hy, fun x hx hp => ?_⟩
  rcases T.fr x hx hp with h | h
  · rw [hd] at h
    rcases List.mem_cons.1 h with h | h
    · exact .inr (.inl ⟨h, fun y hy => .inl (by rw [← h]; exact hy)⟩)
    · exact .inl h
  · exact .inr (.inr h)

theorem SeenL.skip {g : Gr} {a : Int} {s : List Bool} {o l : Nat} {ts : List Int} {c y : Int} {L : List Int} (K : SeenL g a s o l ts c (y :: L)) (hp : bAt s y = true) : SeenL g a s o l ts c L := by
  refine ⟨K.len, K.here, K.ok, K.ol, K.l1, K.td, K.oat, K.sat, fun z hz => K.near z (List.mem_cons_of_mem _ hz), fun x hx hpx => ?_⟩
  rcases K.fr x hx hpx with h | ⟨h1, h⟩ | h
  · exact .inl h
  · refine .inr (.inl ⟨h1, fun z hz => ?_⟩)
    rcases h z hz with h | h
    · rcases List.mem_cons.1 h with h | h
      · rw [h]; exact .inr hp
      · exact .inl h
    · exact .inr h
  · exact .inr (.inr h)

theorem SeenL.mark {g : Gr} {a : Int} {s : List Bool} {o l : Nat} {ts : List Int} {c y : Int} {L : List Int} (K : SeenL g a s o l ts c (y :: L)) (hp : bAt s y = false) : SeenL g a (s.set y.toNat true) 0 (l + 1) (ts.drop o ++ [y]) c L := by
  have hy := K.near y List.mem_cons_self
  have oy := (near_back hy).2.1
  obtain ⟨_, y0, y1, _⟩ := open_in oy
  have yl : y < s.length := by rw [K.len]; exact y1
  have e : ∀ x, 0 ≤ x → bAt (s.set y.toNat true) x = if x = y then true else bAt s x := fun x hx => bAt_set hx y0 yl
  have ox : ∀ {x}, openF g x = true → 0 ≤ x := fun h => (open_in h).2.1
  have keep : ∀ x, 0 ≤ x → bAt s x = true → bAt (s.set y.toNat true) x = true := by
    intro x hx h
    rw [e x hx]
    split
    · rfl
    · exact h
  have a0 : 0 ≤ a := by
    rcases (show a < 0 ∨ 0 ≤ a by omega) with h | h
    · have hw := hw_in (chk0.1 (open_in oy).1).1 (chk0.1 (open_in oy).1).2.1
      have h0 := K.ok 0 (by omega) (by omega)
      have : bAt s 0 = bAt s a := by unfold bAt; rw [show a.toNat = (0 : Int).toNat by omega]
      rw [this] at h0
      obtain ⟨h1, h2⟩ := h0 K.here
      cases h2.symm with
      | refl => omega
      | tail _ hn => have := ox (near_back hn).2.1; omega
    · exact h
  refine ⟨by rw [List.length_set]; exact K.len, keep a a0 K.here, fun x x0 x1 hx => ?_, by have := K.ol; simp; omega, by omega, fun x hx => ?_, K.oat, keep _ (ox K.oat) K.sat, fun z hz => K.near z (List.mem_cons_of_mem _ hz), fun x hx hpx => ?_⟩
  · rw [e x x0] at hx
    by_cases hxy : x = y
    · subst hxy
      have hc := open_in K.oat
      exact ⟨oy, (K.ok c hc.2.1 hc.2.2.1 K.sat).2.tail hy⟩
    · rw [if_neg hxy] at hx
      exact K.ok x x0 x1 hx
  · rw [List.drop_zero] at hx
    rcases List.mem_append.1 hx with h | h
    · obtain ⟨h1, h2⟩ := K.td x h
      exact ⟨h1, keep x (ox h1) h2⟩
    · rw [List.mem_singleton.1 h]
      exact ⟨oy, by rw [e y y0, if_pos rfl]⟩
  · have hdr : (ts.drop o ++ [y]).drop (0 + 1) = ts.drop (o + 1) ++ [y] := by
      have : o < ts.length := by have := K.ol; have := K.l1; omega
      rw [List.drop_append_of_le_length (by simp; omega), List.drop_drop]
    rw [hdr]
    by_cases hxy : x = y
    · exact .inl (by rw [hxy]; simp)
    · rw [e x (ox hx), if_neg hxy] at hpx
      rcases K.fr x hx hpx with h | ⟨h1, h⟩ | h
      · exact .inl (List.mem_append_left _ h)
      · refine .inr (.inl ⟨h1, fun z hz => ?_⟩)
        have oz := (near_back hz).2.1
        rcases h z hz with h | h
        · rcases List.mem_cons.1 h with h | h
          · rw [h]; exact .inr (by rw [e y y0, if_pos rfl])
          · exact .inl h
        · exact .inr (keep z (ox oz) h)
      · exact .inr (.inr fun z hz => keep z (ox (near_back hz).2.1) (h z hz))

/-- In the end: just what steps reach. -/
theorem Seen.all {g : Gr} {a : Int} {s : List Bool} {o : Nat} {ts : List Int} (T : Seen g a s o 0 ts) (oa : openF g a = true) {x : Int} (hx : openF g x = true) : bAt s x = true ↔ Rch g a x := by
  refine ⟨fun h => (T.ok x (open_in hx).2.1 (open_in hx).2.2.1 h).2, fun h => ?_⟩
  clear hx
  induction h with
  | refl => exact T.here
  | tail h hn ih =>
    refine (T.fr _ (near_back hn).1 ih).resolve_left ?_ _ hn
    rw [List.drop_eq_nil_of_le (by have := T.ol; omega)]
    simp

/-- The numbers below i. -/
structure Nums (p : List Int) (i nx : Int) : Prop where
  lt : ∀ x, 0 ≤ x → x < i → pAt p x < nx
  all : ∀ c, 0 ≤ c → c < nx → ∃ x, 0 ≤ x ∧ x < i ∧ pAt p x = c
  n0 : 0 ≤ nx
  le : nx ≤ i

theorem Nums.next {g : Gr} {p : List Int} {n i nx : Int} (hp : IsParts g p n) (N : Nums p i nx) (i0 : 0 ≤ i) (i1 : i < g.h * g.w) : pAt p i ≤ nx ∧ -1 ≤ pAt p i ∧ Nums p (i + 1) (if pAt p i = nx then nx + 1 else nx) := by
  have h1 : pAt p i ≤ nx := by
    rcases Bool.eq_false_or_eq_true (openF g i) with ho | ho
    · refine Int.not_lt.1 fun h => ?_
      obtain ⟨x, a, b, c⟩ := hp.first i ho nx N.n0 h
      have := N.lt x a b
      omega
    · rw [hp.off i i0 i1 ho]; have := N.n0; omega
  have h2 : -1 ≤ pAt p i := by
    rcases Bool.eq_false_or_eq_true (openF g i) with ho | ho
    · have := (hp.lo i ho).1; omega
    · rw [hp.off i i0 i1 ho]; omega
  refine ⟨h1, h2, ?_⟩
  have hl := N.le
  split
  · rename_i h
    refine ⟨fun x x0 x1 => ?_, fun c c0 c1 => ?_, by have := N.n0; omega, by omega⟩
    · by_cases hx : x < i
      · have := N.lt x x0 hx; omega
      · have : x = i := by omega
        subst this; omega
    · by_cases hc : c < nx
      · obtain ⟨x, a, b, d⟩ := N.all c c0 hc
        exact ⟨x, a, by omega, d⟩
      · exact ⟨i, i0, by omega, by omega⟩
  · rename_i h
    refine ⟨fun x x0 x1 => ?_, fun c c0 c1 => ?_, N.n0, by omega⟩
    · by_cases hx : x < i
      · exact N.lt x x0 hx
      · have : x = i := by omega
        subst this; omega
    · obtain ⟨x, a, b, d⟩ := N.all c c0 c1
      exact ⟨x, a, by omega, d⟩

theorem Nums.fin {g : Gr} {p : List Int} {n nx : Int} (hp : IsParts g p n) (N : Nums p (g.h * g.w) nx) : nx = n := by
  have a : ¬ nx < n := fun h => by
    obtain ⟨x, ho, e⟩ := hp.all nx N.n0 h
    have := N.lt x (open_in ho).2.1 (open_in ho).2.2.1
    omega
  have b : ¬ n < nx := fun h => by
    obtain ⟨x, x0, x1, e⟩ := N.all n hp.n0 h
    rcases Bool.eq_false_or_eq_true (openF g x) with ho | ho
    · have := (hp.lo x ho).2; omega
    · have := hp.off x x0 x1 ho; have := hp.n0; omega
  omega

theorem e10_2 (g : Gr) (a : Int) (s : List Bool) (hp : IsParts g (partsF g).1 (partsF g).2) (oa : openF g a = true) (hs : ∀ x, 0 ≤ x → x < g.h * g.w → bAt s x = decide (pAt (partsF g).1 x = pAt (partsF g).1 a)) (sl : (s.length : Int) = g.h * g.w) (m : Nat) :
    ∀ (i nx : Int), 0 ≤ i → i + m = g.h * g.w → Nums (partsF g).1 i nx → GetsK Try.prog Try.f10.results.toList [none] (KK g10) 0 (.v (.bool true), [], []) 2 (stOf 139 [1,2,5,6,7,11,81,82] [.v (.int .i64 a), .ptr 0 0 0, .own 1 0 (partsF g).1.length none, .v (.int .i64 (partsF g).2), .own 2 0 (partsF g).1.length (some (partsF g).1.length), .v (.int .i64 nx), .v (.int .i64 (partsF g).1.length), .v (.int .i64 i)] [.live (.box 35 [.v (.int .i64 g.h), .v (.int .i64 g.w), .sl false false .bool g.B, .sl false false .bool g.R, .sl false false .bool g.L]), .live (.data 3 (.int .i64) (partsF g).1), .live (.data 4 .bool s)]) := by
  have hw := hw_in (chk0.1 (open_in oa).1).1 (chk0.1 (open_in oa).1).2.1
  obtain ⟨hc, a0, a1, _⟩ := open_in oa
  have pl := hp.len
  induction m with
  | zero =>
    intro i nx i0 im N
    refine gets_vc spP (fun k => [[1,2,5,6,7,8],[1,2,5,6,7,8,53,54,55],[1,2,5,6,7,11,81,82]].getD k []) (fun k => if k = 0 then [⟨8, 3, .int .i64⟩] else []) 400 (.fork (.fork (.t (.t (.t .stop))) (.fork (.t (.t .stop)) (.fork (.t .stop) (.fork .stop (.fork (.hd 2) (.hd 2)))))) .stop) (V := fun G R => (decide (i < (↑(partsF g).fst.length : Int)) = true → (0 : Int) ≤ i ∧ i < (↑(partsF g).fst.length : Int) ∧ 0 + i.toNat < s.length ∧ (0 : Int) ≤ i ∧ i < (↑(partsF g).fst.length : Int) ∧ 0 + i.toNat < (partsF g).fst.length ∧ (0 : Int) ≤ a ∧ a < (↑(partsF g).fst.length : Int) ∧ 0 + a.toNat < (partsF g).fst.length ∧ ((!s.getD (0 + i.toNat) Ty.bool.dflt == ((partsF g).fst.getD (0 + i.toNat) (Ty.int IntKind.i64).dflt == (partsF g).fst.getD (0 + a.toNat) (Ty.int IntKind.i64).dflt)) = true → true = true ∧ true = true ∧ true = true ∧ R (D.v (Value.bool false), [], [])) ∧ ((!s.getD (0 + i.toNat) Ty.bool.dflt == ((partsF g).fst.getD (0 + i.toNat) (Ty.int IntKind.i64).dflt == (partsF g).fst.getD (0 + a.toNat) (Ty.int IntKind.i64).dflt)) = false → (0 : Int) ≤ i ∧ i < (↑(partsF g).fst.length : Int) ∧ 0 + i.toNat < (partsF g).fst.length ∧ (decide ((partsF g).fst.getD (0 + i.toNat) (Ty.int IntKind.i64).dflt > nx) = true → true = true ∧ true = true ∧ R (D.v (Value.bool false), [], [])) ∧ (decide ((partsF g).fst.getD (0 + i.toNat) (Ty.int IntKind.i64).dflt > nx) = false → (0 : Int) ≤ i ∧ i < (↑(partsF g).fst.length : Int) ∧ 0 + i.toNat < (partsF g).fst.length ∧ (decide ((partsF g).fst.getD (0 + i.toNat) (Ty.int IntKind.i64).dflt < (-1 : Int)) = true → true = true ∧ R (D.v (Value.bool false), [], [])) ∧ (decide ((partsF g).fst.getD (0 + i.toNat) (Ty.int IntKind.i64).dflt < (-1 : Int)) = false → (0 : Int) ≤ i ∧ i < (↑(partsF g).fst.length : Int) ∧ 0 + i.toNat < (partsF g).fst.length ∧ (0 : Int) ≤ i ∧ i < (↑g.B.length : Int) ∧ ((!((partsF g).fst.getD (0 + i.toNat) (Ty.int IntKind.i64).dflt == (-1 : Int)) == g.B.getD i.toNat Ty.bool.dflt) = true → R (D.v (Value.bool false), [], [])) ∧ ((!((partsF g).fst.getD (0 + i.toNat) (Ty.int IntKind.i64).dflt == (-1 : Int)) == g.B.getD i.toNat Ty.bool.dflt) = false → (0 : Int) ≤ i ∧ i < (↑(partsF g).fst.length : Int) ∧ 0 + i.toNat < (partsF g).fst.length ∧ (((partsF g).fst.getD (0 + i.toNat) (Ty.int IntKind.i64).dflt == nx) = true → SameK (KK g10 2) (KK g10 2) ∧ G 2 (stOf 139 [1, 2, 5, 6, 7, 11, 81, 82] [D.v (Value.int IntKind.i64 a), D.ptr 0 0 0, D.own 1 0 (partsF g).fst.length none, D.v (Value.int IntKind.i64 (partsF g).snd), D.own 2 0 (partsF g).fst.length (some (partsF g).fst.length), D.v (Value.int IntKind.i64 (IntKind.i64.wrap (nx + (1 : Int)))), D.v (Value.int IntKind.i64 (↑(partsF g).fst.length : Int)), D.v (Value.int IntKind.i64 (IntKind.i64.wrap (i + (1 : Int))))] [Slot.live (Row.box 35 [D.v (Value.int IntKind.i64 g.h), D.v (Value.int IntKind.i64 g.w), D.sl false false Ty.bool g.B, D.sl false false Ty.bool g.R, D.sl false false Ty.bool g.L]), Slot.live (Row.data 3 (Ty.int IntKind.i64) (partsF g).fst), Slot.live (Row.data 4 Ty.bool s)])) ∧ (((partsF g).fst.getD (0 + i.toNat) (Ty.int IntKind.i64).dflt == nx) = false → SameK (KK g10 2) (KK g10 2) ∧ G 2 (stOf 139 [1, 2, 5, 6, 7, 11, 81, 82] [D.v (Value.int IntKind.i64 a), D.ptr 0 0 0, D.own 1 0 (partsF g).fst.length none, D.v (Value.int IntKind.i64 (partsF g).snd), D.own 2 0 (partsF g).fst.length (some (partsF g).fst.length), D.v (Value.int IntKind.i64 nx), D.v (Value.int IntKind.i64 (↑(partsF g).fst.length : Int)), D.v (Value.int IntKind.i64 (IntKind.i64.wrap (i + (1 : Int))))] [Slot.live (Row.box 35 [D.v (Value.int IntKind.i64 g.h), D.v (Value.int IntKind.i64 g.w), D.sl false false Ty.bool g.B, D.sl false false Ty.bool g.R, D.sl false false Ty.bool g.L]), Slot.live (Row.data 3 (Ty.int IntKind.i64) (partsF g).fst), Slot.live (Row.data 4 Ty.bool s)]))))))) ∧ (decide (i < (↑(partsF g).fst.length : Int)) = false → R (D.v (Value.bool (nx == (partsF g).snd)), [], []))) hmG (fun G R => by kernel_rfl) ?_
    try dsimp only
    refine ⟨fun h => ?_, fun h => ?_⟩
    · rw [decide_eq_true_eq] at h; omega
    · have e : i = g.h * g.w := by omega
      subst e
      have := N.fin hp
      rw [this]
      simp
  | succ m ih =>
    intro i nx i0 im N
    obtain ⟨n1, n2, N'⟩ := N.next hp i0 (by omega)
    have hi := ih (i + 1) _ (by omega) (by omega) N'
    have e1 := getD_pAt (p := (partsF g).1) (i := i) (by omega)
    have e2 := getD_pAt (p := (partsF g).1) (i := a) (by omega)
    have e3 := hs i i0 (by omega)
    have e4 : (pAt (partsF g).1 i = -1) ↔ bAt g.B i = true := by
      rcases Bool.eq_false_or_eq_true (openF g i) with ho | ho
      · have h1 := (hp.lo i ho).1
        have h2 := (open_in ho).2.2.2
        rw [h2]
        constructor
        · intro h; omega
        · intro h; cases h
      · have h1 := hp.off i i0 (by omega) ho
        rw [open_of hc i0 (by omega)] at ho
        simp [h1]
        simpa using ho
    have le := N.le
    have n0 := N.n0
    obtain ⟨_, _, sz, _⟩ := chk0.1 hc
    have s3 := size3 sz
    refine gets_vc spP (fun k => [[1,2,5,6,7,8],[1,2,5,6,7,8,53,54,55],[1,2,5,6,7,11,81,82]].getD k []) (fun k => if k = 0 then [⟨8, 3, .int .i64⟩] else []) 400 (.fork (.fork (.t (.t (.t .stop))) (.fork (.t (.t .stop)) (.fork (.t .stop) (.fork .stop (.fork (.hd 2) (.hd 2)))))) .stop) (V := fun G R => (decide (i < (↑(partsF g).fst.length : Int)) = true → (0 : Int) ≤ i ∧ i < (↑(partsF g).fst.length : Int) ∧ 0 + i.toNat < s.length ∧ (0 : Int) ≤ i ∧ i < (↑(partsF g).fst.length : Int) ∧ 0 + i.toNat < (partsF g).fst.length ∧ (0 : Int) ≤ a ∧ a < (↑(partsF g).fst.length : Int) ∧ 0 + a.toNat < (partsF g).fst.length ∧ ((!s.getD (0 + i.toNat) Ty.bool.dflt == ((partsF g).fst.getD (0 + i.toNat) (Ty.int IntKind.i64).dflt == (partsF g).fst.getD (0 + a.toNat) (Ty.int IntKind.i64).dflt)) = true → true = true ∧ true = true ∧ true = true ∧ R (D.v (Value.bool false), [], [])) ∧ ((!s.getD (0 + i.toNat) Ty.bool.dflt == ((partsF g).fst.getD (0 + i.toNat) (Ty.int IntKind.i64).dflt == (partsF g).fst.getD (0 + a.toNat) (Ty.int IntKind.i64).dflt)) = false → (0 : Int) ≤ i ∧ i < (↑(partsF g).fst.length : Int) ∧ 0 + i.toNat < (partsF g).fst.length ∧ (decide ((partsF g).fst.getD (0 + i.toNat) (Ty.int IntKind.i64).dflt > nx) = true → true = true ∧ true = true ∧ R (D.v (Value.bool false), [], [])) ∧ (decide ((partsF g).fst.getD (0 + i.toNat) (Ty.int IntKind.i64).dflt > nx) = false → (0 : Int) ≤ i ∧ i < (↑(partsF g).fst.length : Int) ∧ 0 + i.toNat < (partsF g).fst.length ∧ (decide ((partsF g).fst.getD (0 + i.toNat) (Ty.int IntKind.i64).dflt < (-1 : Int)) = true → true = true ∧ R (D.v (Value.bool false), [], [])) ∧ (decide ((partsF g).fst.getD (0 + i.toNat) (Ty.int IntKind.i64).dflt < (-1 : Int)) = false → (0 : Int) ≤ i ∧ i < (↑(partsF g).fst.length : Int) ∧ 0 + i.toNat < (partsF g).fst.length ∧ (0 : Int) ≤ i ∧ i < (↑g.B.length : Int) ∧ ((!((partsF g).fst.getD (0 + i.toNat) (Ty.int IntKind.i64).dflt == (-1 : Int)) == g.B.getD i.toNat Ty.bool.dflt) = true → R (D.v (Value.bool false), [], [])) ∧ ((!((partsF g).fst.getD (0 + i.toNat) (Ty.int IntKind.i64).dflt == (-1 : Int)) == g.B.getD i.toNat Ty.bool.dflt) = false → (0 : Int) ≤ i ∧ i < (↑(partsF g).fst.length : Int) ∧ 0 + i.toNat < (partsF g).fst.length ∧ (((partsF g).fst.getD (0 + i.toNat) (Ty.int IntKind.i64).dflt == nx) = true → SameK (KK g10 2) (KK g10 2) ∧ G 2 (stOf 139 [1, 2, 5, 6, 7, 11, 81, 82] [D.v (Value.int IntKind.i64 a), D.ptr 0 0 0, D.own 1 0 (partsF g).fst.length none, D.v (Value.int IntKind.i64 (partsF g).snd), D.own 2 0 (partsF g).fst.length (some (partsF g).fst.length), D.v (Value.int IntKind.i64 (IntKind.i64.wrap (nx + (1 : Int)))), D.v (Value.int IntKind.i64 (↑(partsF g).fst.length : Int)), D.v (Value.int IntKind.i64 (IntKind.i64.wrap (i + (1 : Int))))] [Slot.live (Row.box 35 [D.v (Value.int IntKind.i64 g.h), D.v (Value.int IntKind.i64 g.w), D.sl false false Ty.bool g.B, D.sl false false Ty.bool g.R, D.sl false false Ty.bool g.L]), Slot.live (Row.data 3 (Ty.int IntKind.i64) (partsF g).fst), Slot.live (Row.data 4 Ty.bool s)])) ∧ (((partsF g).fst.getD (0 + i.toNat) (Ty.int IntKind.i64).dflt == nx) = false → SameK (KK g10 2) (KK g10 2) ∧ G 2 (stOf 139 [1, 2, 5, 6, 7, 11, 81, 82] [D.v (Value.int IntKind.i64 a), D.ptr 0 0 0, D.own 1 0 (partsF g).fst.length none, D.v (Value.int IntKind.i64 (partsF g).snd), D.own 2 0 (partsF g).fst.length (some (partsF g).fst.length), D.v (Value.int IntKind.i64 nx), D.v (Value.int IntKind.i64 (↑(partsF g).fst.length : Int)), D.v (Value.int IntKind.i64 (IntKind.i64.wrap (i + (1 : Int))))] [Slot.live (Row.box 35 [D.v (Value.int IntKind.i64 g.h), D.v (Value.int IntKind.i64 g.w), D.sl false false Ty.bool g.B, D.sl false false Ty.bool g.R, D.sl false false Ty.bool g.L]), Slot.live (Row.data 3 (Ty.int IntKind.i64) (partsF g).fst), Slot.live (Row.data 4 Ty.bool s)]))))))) ∧ (decide (i < (↑(partsF g).fst.length : Int)) = false → R (D.v (Value.bool (nx == (partsF g).snd)), [], []))) hmG (fun G R => by kernel_rfl) ?_
    try dsimp only
    have e3' : s.getD i.toNat false = decide (pAt (partsF g).1 i = pAt (partsF g).1 a) := e3
    have e4' : g.B.getD i.toNat false = decide (pAt (partsF g).1 i = -1) := by
      have : g.B.getD i.toNat false = bAt g.B i := rfl
      rw [this]
      rcases Bool.eq_false_or_eq_true (bAt g.B i) with h | h
      · rw [h]; symm; exact decide_eq_true (e4.2 h)
      · rw [h]; symm; refine decide_eq_false (fun hh => ?_)
        rw [e4.1 hh] at h; cases h
    have bd : ∀ x y : Int, (x == y) = decide (x = y) := fun _ _ => rfl
    simp only [Nat.zero_add, Ty.dflt, e1, e2, e3', e4', bd, beq_self_eq_true, Bool.not_true]
    rw [wrG (by omega) (by omega), wrG (by omega) (by omega)]
    generalize hX : pAt (partsF g).1 i = X at *
    generalize hY : pAt (partsF g).1 a = Y at *
    repeat' (first | with_reducible refine And.intro ?_ ?_ | intro _)
    all_goals first | rfl | trivial | omega | (exfalso; simp_all; done) | (exfalso; simp_all; omega) | skip
    all_goals (simp_all; done)

theorem e10_1 (g : Gr) (a : Int) (M : Nat) (hM : M ≤ 1000)
    (IH : ∀ (o l : Nat) (s : List Bool) (ts : List Int), Seen g a s o l ts → 2 * uns s + l ≤ M → GetsK Try.prog Try.f10.results.toList [none] (KK g10) 0 (.v (.bool true), [], []) 0 (stOf 139 [1,2,5,6,7,8] [.v (.int .i64 a), .ptr 0 0 0, .own 1 0 (partsF g).1.length none, .v (.int .i64 (partsF g).2), .own 2 0 (partsF g).1.length (some (partsF g).1.length), .own 3 o l none] [.live (.box 35 [.v (.int .i64 g.h), .v (.int .i64 g.w), .sl false false .bool g.B, .sl false false .bool g.R, .sl false false .bool g.L]), .live (.data 3 (.int .i64) (partsF g).1), .live (.data 4 .bool s), .live (.data 3 (.int .i64) ts)])) (pl : ((partsF g).1.length : Int) = g.h * g.w) (hl : (partsF g).1.length ≤ 256) (L : List Int) (hL : L.length ≤ 4) (c : Int) (m : Nat) :
    ∀ (k : Int) (o l : Nat) (s : List Bool) (ts : List Int), 0 ≤ k → k + m = L.length → SeenL g a s o l ts c (L.drop k.toNat) → 2 * uns s + l ≤ M + 1 → GetsK Try.prog Try.f10.results.toList [none] (KK g10) 0 (.v (.bool true), [], []) 1 (stOf 139 [1,2,5,6,7,8,53,54,55] [.v (.int .i64 a), .ptr 0 0 0, .own 1 0 (partsF g).1.length none, .v (.int .i64 (partsF g).2), .own 2 0 (partsF g).1.length (some (partsF g).1.length), .own 3 o l none, .own 4 0 L.length none, .v (.int .i64 L.length), .v (.int .i64 k)] [.live (.box 35 [.v (.int .i64 g.h), .v (.int .i64 g.w), .sl false false .bool g.B, .sl false false .bool g.R, .sl false false .bool g.L]), .live (.data 3 (.int .i64) (partsF g).1), .live (.data 4 .bool s), .live (.data 3 (.int .i64) ts), .live (.data 3 (.int .i64) L)]) := by
  induction m with
  | zero =>
    intro k o l s ts k0 km K hm
    rw [List.drop_eq_nil_of_le (by omega)] at K
    have F := K.fin
    have ol := K.ol
    have l1 := K.l1
    refine gets_vc spP (fun k => [[1,2,5,6,7,8],[1,2,5,6,7,8,53,54,55],[1,2,5,6,7,11,81,82]].getD k []) (fun k => if k = 0 then [⟨8, 3, .int .i64⟩] else []) 400 (.fork (.fork (.t .stop) (.fork .stop (.fork (.hd 1) (.hd 1)))) (.hd 0)) (V := fun G R => (decide (k < (↑L.length : Int)) = true → (0 : Int) ≤ k ∧ k < (↑L.length : Int) ∧ 0 + k.toNat < L.length ∧ (decide (L.getD (0 + k.toNat) (Ty.int IntKind.i64).dflt < (0 : Int)) = true → true = true ∧ R (D.v (Value.bool false), [], [])) ∧ (decide (L.getD (0 + k.toNat) (Ty.int IntKind.i64).dflt < (0 : Int)) = false → (decide (L.getD (0 + k.toNat) (Ty.int IntKind.i64).dflt ≥ (↑(partsF g).fst.length : Int)) = true → R (D.v (Value.bool false), [], [])) ∧ (decide (L.getD (0 + k.toNat) (Ty.int IntKind.i64).dflt ≥ (↑(partsF g).fst.length : Int)) = false → (0 : Int) ≤ L.getD (0 + k.toNat) (Ty.int IntKind.i64).dflt ∧ L.getD (0 + k.toNat) (Ty.int IntKind.i64).dflt < (↑(partsF g).fst.length : Int) ∧ 0 + Int.toNat (L.getD (0 + k.toNat) (Ty.int IntKind.i64).dflt) < s.length ∧ ((!s.getD (0 + Int.toNat (L.getD (0 + k.toNat) (Ty.int IntKind.i64).dflt)) Ty.bool.dflt) = true → (0 : Int) ≤ L.getD (0 + k.toNat) (Ty.int IntKind.i64).dflt ∧ L.getD (0 + k.toNat) (Ty.int IntKind.i64).dflt < (↑(partsF g).fst.length : Int) ∧ 0 + Int.toNat (L.getD (0 + k.toNat) (Ty.int IntKind.i64).dflt) < s.length ∧ roomy Try.prog 3 (l + 1) ∧ SameK (KK g10 1) (KK g10 1) ∧ G 1 (stOf 139 [1, 2, 5, 6, 7, 8, 53, 54, 55] [D.v (Value.int IntKind.i64 a), D.ptr 0 0 0, D.own 1 0 (partsF g).fst.length none, D.v (Value.int IntKind.i64 (partsF g).snd), D.own 2 0 (partsF g).fst.length (some (partsF g).fst.length), D.own 3 0 (l + 1) none, D.own 4 0 L.length none, D.v (Value.int IntKind.i64 (↑L.length : Int)), D.v (Value.int IntKind.i64 (IntKind.i64.wrap (k + (1 : Int))))] [Slot.live (Row.box 35 [D.v (Value.int IntKind.i64 g.h), D.v (Value.int IntKind.i64 g.w), D.sl false false Ty.bool g.B, D.sl false false Ty.bool g.R, D.sl false false Ty.bool g.L]), Slot.live (Row.data 3 (Ty.int IntKind.i64) (partsF g).fst), Slot.live (Row.data 4 Ty.bool (s.set (0 + Int.toNat (L.getD (0 + k.toNat) (Ty.int IntKind.i64).dflt)) true)), Slot.live (Row.data 3 (Ty.int IntKind.i64) (List.take l (List.drop o ts) ++ List.take 1 (List.drop 0 [L.getD (0 + k.toNat) (Ty.int IntKind.i64).dflt]))), Slot.live (Row.data 3 (Ty.int IntKind.i64) L)])) ∧ ((!s.getD (0 + Int.toNat (L.getD (0 + k.toNat) (Ty.int IntKind.i64).dflt)) Ty.bool.dflt) = false → SameK (KK g10 1) (KK g10 1) ∧ G 1 (stOf 139 [1, 2, 5, 6, 7, 8, 53, 54, 55] [D.v (Value.int IntKind.i64 a), D.ptr 0 0 0, D.own 1 0 (partsF g).fst.length none, D.v (Value.int IntKind.i64 (partsF g).snd), D.own 2 0 (partsF g).fst.length (some (partsF g).fst.length), D.own 3 o l none, D.own 4 0 L.length none, D.v (Value.int IntKind.i64 (↑L.length : Int)), D.v (Value.int IntKind.i64 (IntKind.i64.wrap (k + (1 : Int))))] [Slot.live (Row.box 35 [D.v (Value.int IntKind.i64 g.h), D.v (Value.int IntKind.i64 g.w), D.sl false false Ty.bool g.B, D.sl false false Ty.bool g.R, D.sl false false Ty.bool g.L]), Slot.live (Row.data 3 (Ty.int IntKind.i64) (partsF g).fst), Slot.live (Row.data 4 Ty.bool s), Slot.live (Row.data 3 (Ty.int IntKind.i64) ts), Slot.live (Row.data 3 (Ty.int IntKind.i64) L)]))))) ∧ (decide (k < (↑L.length : Int)) = false → (0 : Int) ≤ (1 : Int) ∧ (1 : Int) ≤ (↑l : Int) ∧ (↑l : Int) ≤ (↑(ts.length - o) : Int) ∧ SameK (KK g10 0) (KK g10 0) ∧ G 0 (stOf 139 [1, 2, 5, 6, 7, 8] [D.v (Value.int IntKind.i64 a), D.ptr 0 0 0, D.own 1 0 (partsF g).fst.length none, D.v (Value.int IntKind.i64 (partsF g).snd), D.own 2 0 (partsF g).fst.length (some (partsF g).fst.length), D.own 3 (o + 1) ((↑l : Int).toNat - 1) none] [Slot.live (Row.box 35 [D.v (Value.int IntKind.i64 g.h), D.v (Value.int IntKind.i64 g.w), D.sl false false Ty.bool g.B, D.sl false false Ty.bool g.R, D.sl false false Ty.bool g.L]), Slot.live (Row.data 3 (Ty.int IntKind.i64) (partsF g).fst), Slot.live (Row.data 4 Ty.bool s), Slot.live (Row.data 3 (Ty.int IntKind.i64) ts)]))) hmG (fun G R => by kernel_rfl) ?_
    try dsimp only
    simp (disch := omega) only [wrG, Nat.add_zero, Nat.zero_add, Int.toNat_natCast]
    refine ⟨fun hk => ?_, fun hk => ⟨by omega, by omega, by omega, SameK.same _, ?_⟩⟩
    · rw [decide_eq_true_eq] at hk; omega
    · exact IH (o + 1) (l - 1) s ts F (by omega)
  | succ m ih =>
    intro k o l s ts k0 km K hm
    have hd := drop_at (xs := L) (i := k) (0 : Int) k0 (by omega)
    rw [hd] at K
    have hy := K.near _ List.mem_cons_self
    have oy := (near_back hy).2.1
    obtain ⟨_, y0, y1, _⟩ := open_in oy
    have sl := K.len
    have ol := K.ol
    refine gets_vc spP (fun k => [[1,2,5,6,7,8],[1,2,5,6,7,8,53,54,55],[1,2,5,6,7,11,81,82]].getD k []) (fun k => if k = 0 then [⟨8, 3, .int .i64⟩] else []) 400 (.fork (.fork (.t .stop) (.fork .stop (.fork (.hd 1) (.hd 1)))) (.hd 0)) (V := fun G R => (decide (k < (↑L.length : Int)) = true → (0 : Int) ≤ k ∧ k < (↑L.length : Int) ∧ 0 + k.toNat < L.length ∧ (decide (L.getD (0 + k.toNat) (Ty.int IntKind.i64).dflt < (0 : Int)) = true → true = true ∧ R (D.v (Value.bool false), [], [])) ∧ (decide (L.getD (0 + k.toNat) (Ty.int IntKind.i64).dflt < (0 : Int)) = false → (decide (L.getD (0 + k.toNat) (Ty.int IntKind.i64).dflt ≥ (↑(partsF g).fst.length : Int)) = true → R (D.v (Value.bool false), [], [])) ∧ (decide (L.getD (0 + k.toNat) (Ty.int IntKind.i64).dflt ≥ (↑(partsF g).fst.length : Int)) = false → (0 : Int) ≤ L.getD (0 + k.toNat) (Ty.int IntKind.i64).dflt ∧ L.getD (0 + k.toNat) (Ty.int IntKind.i64).dflt < (↑(partsF g).fst.length : Int) ∧ 0 + Int.toNat (L.getD (0 + k.toNat) (Ty.int IntKind.i64).dflt) < s.length ∧ ((!s.getD (0 + Int.toNat (L.getD (0 + k.toNat) (Ty.int IntKind.i64).dflt)) Ty.bool.dflt) = true → (0 : Int) ≤ L.getD (0 + k.toNat) (Ty.int IntKind.i64).dflt ∧ L.getD (0 + k.toNat) (Ty.int IntKind.i64).dflt < (↑(partsF g).fst.length : Int) ∧ 0 + Int.toNat (L.getD (0 + k.toNat) (Ty.int IntKind.i64).dflt) < s.length ∧ roomy Try.prog 3 (l + 1) ∧ SameK (KK g10 1) (KK g10 1) ∧ G 1 (stOf 139 [1, 2, 5, 6, 7, 8, 53, 54, 55] [D.v (Value.int IntKind.i64 a), D.ptr 0 0 0, D.own 1 0 (partsF g).fst.length none, D.v (Value.int IntKind.i64 (partsF g).snd), D.own 2 0 (partsF g).fst.length (some (partsF g).fst.length), D.own 3 0 (l + 1) none, D.own 4 0 L.length none, D.v (Value.int IntKind.i64 (↑L.length : Int)), D.v (Value.int IntKind.i64 (IntKind.i64.wrap (k + (1 : Int))))] [Slot.live (Row.box 35 [D.v (Value.int IntKind.i64 g.h), D.v (Value.int IntKind.i64 g.w), D.sl false false Ty.bool g.B, D.sl false false Ty.bool g.R, D.sl false false Ty.bool g.L]), Slot.live (Row.data 3 (Ty.int IntKind.i64) (partsF g).fst), Slot.live (Row.data 4 Ty.bool (s.set (0 + Int.toNat (L.getD (0 + k.toNat) (Ty.int IntKind.i64).dflt)) true)), Slot.live (Row.data 3 (Ty.int IntKind.i64) (List.take l (List.drop o ts) ++ List.take 1 (List.drop 0 [L.getD (0 + k.toNat) (Ty.int IntKind.i64).dflt]))), Slot.live (Row.data 3 (Ty.int IntKind.i64) L)])) ∧ ((!s.getD (0 + Int.toNat (L.getD (0 + k.toNat) (Ty.int IntKind.i64).dflt)) Ty.bool.dflt) = false → SameK (KK g10 1) (KK g10 1) ∧ G 1 (stOf 139 [1, 2, 5, 6, 7, 8, 53, 54, 55] [D.v (Value.int IntKind.i64 a), D.ptr 0 0 0, D.own 1 0 (partsF g).fst.length none, D.v (Value.int IntKind.i64 (partsF g).snd), D.own 2 0 (partsF g).fst.length (some (partsF g).fst.length), D.own 3 o l none, D.own 4 0 L.length none, D.v (Value.int IntKind.i64 (↑L.length : Int)), D.v (Value.int IntKind.i64 (IntKind.i64.wrap (k + (1 : Int))))] [Slot.live (Row.box 35 [D.v (Value.int IntKind.i64 g.h), D.v (Value.int IntKind.i64 g.w), D.sl false false Ty.bool g.B, D.sl false false Ty.bool g.R, D.sl false false Ty.bool g.L]), Slot.live (Row.data 3 (Ty.int IntKind.i64) (partsF g).fst), Slot.live (Row.data 4 Ty.bool s), Slot.live (Row.data 3 (Ty.int IntKind.i64) ts), Slot.live (Row.data 3 (Ty.int IntKind.i64) L)]))))) ∧ (decide (k < (↑L.length : Int)) = false → (0 : Int) ≤ (1 : Int) ∧ (1 : Int) ≤ (↑l : Int) ∧ (↑l : Int) ≤ (↑(ts.length - o) : Int) ∧ SameK (KK g10 0) (KK g10 0) ∧ G 0 (stOf 139 [1, 2, 5, 6, 7, 8] [D.v (Value.int IntKind.i64 a), D.ptr 0 0 0, D.own 1 0 (partsF g).fst.length none, D.v (Value.int IntKind.i64 (partsF g).snd), D.own 2 0 (partsF g).fst.length (some (partsF g).fst.length), D.own 3 (o + 1) ((↑l : Int).toNat - 1) none] [Slot.live (Row.box 35 [D.v (Value.int IntKind.i64 g.h), D.v (Value.int IntKind.i64 g.w), D.sl false false Ty.bool g.B, D.sl false false Ty.bool g.R, D.sl false false Ty.bool g.L]), Slot.live (Row.data 3 (Ty.int IntKind.i64) (partsF g).fst), Slot.live (Row.data 4 Ty.bool s), Slot.live (Row.data 3 (Ty.int IntKind.i64) ts)]))) hmG (fun G R => by kernel_rfl) ?_
    try dsimp only
    simp only [Nat.zero_add, Ty.dflt, List.drop_zero]
    generalize hyy : L.getD k.toNat 0 = y at *
    have tk : List.take l (List.drop o ts) = List.drop o ts := List.take_of_length_le (by simp; omega)
    have wk : IntKind.i64.wrap (k + 1) = k + 1 := wrG (by omega) (by omega)
    rw [tk, wk, show s.getD y.toNat false = bAt s y from rfl]
    refine ⟨fun hk => ⟨by omega, by omega, by omega, fun h => ?_, fun h => ⟨fun h => ?_, fun h => ⟨by omega, by omega, by omega, fun h => ?_, fun h => ?_⟩⟩⟩, fun hk => ?_⟩
    · rw [decide_eq_true_eq] at h; omega
    · rw [decide_eq_true_eq] at h; omega
    · have hp : bAt s y = false := by simpa using h
      have hu := uns_set (s := s) (k := y.toNat) (by omega) hp
      try simp (disch := omega) only [wrG]
      refine ⟨by omega, by omega, by omega, room3 (by omega), SameK.same _, ?_⟩
      exact ih (k + 1) 0 (l + 1) _ _ (by omega) (by omega) (K.mark hp) (by omega)
    · have hp : bAt s y = true := by simpa using h
      exact ⟨SameK.same _, ih (k + 1) o l s ts (by omega) (by omega) (K.skip hp) hm⟩
    · rw [decide_eq_false_iff_not] at hk; omega

theorem e10_0 (g : Gr) (a : Int) (hp : IsParts g (partsF g).1 (partsF g).2) (oa : openF g a = true) (M : Nat) :
    M ≤ 1000 → ∀ (o l : Nat) (s : List Bool) (ts : List Int), Seen g a s o l ts → 2 * uns s + l ≤ M → GetsK Try.prog Try.f10.results.toList [none] (KK g10) 0 (.v (.bool true), [], []) 0 (stOf 139 [1,2,5,6,7,8] [.v (.int .i64 a), .ptr 0 0 0, .own 1 0 (partsF g).1.length none, .v (.int .i64 (partsF g).2), .own 2 0 (partsF g).1.length (some (partsF g).1.length), .own 3 o l none] [.live (.box 35 [.v (.int .i64 g.h), .v (.int .i64 g.w), .sl false false .bool g.B, .sl false false .bool g.R, .sl false false .bool g.L]), .live (.data 3 (.int .i64) (partsF g).1), .live (.data 4 .bool s), .live (.data 3 (.int .i64) ts)]) := by
  have hw := hw_in (chk0.1 (open_in oa).1).1 (chk0.1 (open_in oa).1).2.1
  have pl := hp.len
  have stop : ∀ (o : Nat) (s : List Bool) (ts : List Int), Seen g a s o 0 ts → GetsK Try.prog Try.f10.results.toList [none] (KK g10) 0 (.v (.bool true), [], []) 2 (stOf 139 [1,2,5,6,7,11,81,82] [.v (.int .i64 a), .ptr 0 0 0, .own 1 0 (partsF g).1.length none, .v (.int .i64 (partsF g).2), .own 2 0 (partsF g).1.length (some (partsF g).1.length), .v (.int .i64 0), .v (.int .i64 (partsF g).1.length), .v (.int .i64 0)] [.live (.box 35 [.v (.int .i64 g.h), .v (.int .i64 g.w), .sl false false .bool g.B, .sl false false .bool g.R, .sl false false .bool g.L]), .live (.data 3 (.int .i64) (partsF g).1), .live (.data 4 .bool s)]) := by
    intro o s ts T
    refine e10_2 g a s hp oa (fun x x0 x1 => ?_) T.len (g.h * g.w).toNat 0 0 (by omega) (by omega) ⟨fun x _ _ => by omega, fun c _ _ => by omega, by omega, by omega⟩
    rcases Bool.eq_false_or_eq_true (openF g x) with ho | ho
    · have := T.all oa ho
      rw [← hp.same a x oa ho] at this
      rcases Bool.eq_false_or_eq_true (bAt s x) with h | h
      · rw [h]; symm; exact decide_eq_true (this.1 h).symm
      · rw [h]; symm; refine decide_eq_false (fun hh => ?_)
        rw [this.2 hh.symm] at h; cases h
    · have h1 := hp.off x x0 x1 ho
      have h2 := (hp.lo a oa).1
      have h3 : bAt s x = false := by
        rcases Bool.eq_false_or_eq_true (bAt s x) with h | h
        · rw [(T.ok x x0 x1 h).1] at ho; cases ho
        · exact h
      rw [h3]; symm; exact decide_eq_false (by omega)
  induction M with
  | zero =>
    intro hM o l s ts T hm
    have : l = 0 := by omega
    subst this
    refine gets_vc spP (fun k => [[1,2,5,6,7,8],[1,2,5,6,7,8,53,54,55],[1,2,5,6,7,11,81,82]].getD k []) (fun k => if k = 0 then [⟨8, 3, .int .i64⟩] else []) 400 (.fork (.hd 1) (.hd 2)) (V := fun G R => (decide ((↑0 : Int) > (0 : Int)) = true → (0 : Int) ≤ (0 : Int) ∧ (0 : Int) < (↑0 : Int) ∧ o + 0 < ts.length ∧ Con Try.prog 39 [] [D.agg [D.v (Value.int IntKind.i64 g.h), D.v (Value.int IntKind.i64 g.w), D.sl false false Ty.bool g.B, D.sl false false Ty.bool g.R, D.sl false false Ty.bool g.L], D.v (Value.int IntKind.i64 (ts.getD (o + 0) (Ty.int IntKind.i64).dflt))] (D.own 0 0 (nearF g (ts.getD (o + 0) (Ty.int IntKind.i64).dflt)).length none) [] [Row.data 3 (Ty.int IntKind.i64) (nearF g (ts.getD (o + 0) (Ty.int IntKind.i64).dflt))] ∧ Value.int IntKind.i64 g.h = Value.int IntKind.i64 g.h ∧ Value.int IntKind.i64 g.w = Value.int IntKind.i64 g.w ∧ g.B = g.B ∧ g.R = g.R ∧ g.L = g.L ∧ Value.int IntKind.i64 (ts.getD (o + 0) (Ty.int IntKind.i64).dflt) = Value.int IntKind.i64 (ts.getD (o + 0) (Ty.int IntKind.i64).dflt) ∧ SameK (KK g10 1) (KK g10 1) ∧ G 1 (stOf 139 [1, 2, 5, 6, 7, 8, 53, 54, 55] [D.v (Value.int IntKind.i64 a), D.ptr 0 0 0, D.own 1 0 (partsF g).fst.length none, D.v (Value.int IntKind.i64 (partsF g).snd), D.own 2 0 (partsF g).fst.length (some (partsF g).fst.length), D.own 3 o 0 none, D.own 4 0 (nearF g (ts.getD (o + 0) (Ty.int IntKind.i64).dflt)).length none, D.v (Value.int IntKind.i64 (↑(nearF g (ts.getD (o + 0) (Ty.int IntKind.i64).dflt)).length : Int)), D.v (Value.int IntKind.i64 (0 : Int))] [Slot.live (Row.box 35 [D.v (Value.int IntKind.i64 g.h), D.v (Value.int IntKind.i64 g.w), D.sl false false Ty.bool g.B, D.sl false false Ty.bool g.R, D.sl false false Ty.bool g.L]), Slot.live (Row.data 3 (Ty.int IntKind.i64) (partsF g).fst), Slot.live (Row.data 4 Ty.bool s), Slot.live (Row.data 3 (Ty.int IntKind.i64) ts), Slot.live (Row.data 3 (Ty.int IntKind.i64) (nearF g (ts.getD (o + 0) (Ty.int IntKind.i64).dflt)))])) ∧ (decide ((↑0 : Int) > (0 : Int)) = false → SameK (KK g10 2) (KK g10 2) ∧ G 2 (stOf 139 [1, 2, 5, 6, 7, 11, 81, 82] [D.v (Value.int IntKind.i64 a), D.ptr 0 0 0, D.own 1 0 (partsF g).fst.length none, D.v (Value.int IntKind.i64 (partsF g).snd), D.own 2 0 (partsF g).fst.length (some (partsF g).fst.length), D.v (Value.int IntKind.i64 (0 : Int)), D.v (Value.int IntKind.i64 (↑(partsF g).fst.length : Int)), D.v (Value.int IntKind.i64 (0 : Int))] [Slot.live (Row.box 35 [D.v (Value.int IntKind.i64 g.h), D.v (Value.int IntKind.i64 g.w), D.sl false false Ty.bool g.B, D.sl false false Ty.bool g.R, D.sl false false Ty.bool g.L]), Slot.live (Row.data 3 (Ty.int IntKind.i64) (partsF g).fst), Slot.live (Row.data 4 Ty.bool s)]))) hmG (fun G R => by kernel_rfl) ?_
    try dsimp only
    refine ⟨fun hl => ?_, fun hl => ⟨SameK.same _, stop o s ts T⟩⟩
    rw [decide_eq_true_eq] at hl; simp at hl
  | succ M ih =>
    intro hM o l s ts T hm
    have ol := T.ol
    refine gets_vc spP (fun k => [[1,2,5,6,7,8],[1,2,5,6,7,8,53,54,55],[1,2,5,6,7,11,81,82]].getD k []) (fun k => if k = 0 then [⟨8, 3, .int .i64⟩] else []) 400 (.fork (.hd 1) (.hd 2)) (V := fun G R => (decide ((↑l : Int) > (0 : Int)) = true → (0 : Int) ≤ (0 : Int) ∧ (0 : Int) < (↑l : Int) ∧ o + 0 < ts.length ∧ Con Try.prog 39 [] [D.agg [D.v (Value.int IntKind.i64 g.h), D.v (Value.int IntKind.i64 g.w), D.sl false false Ty.bool g.B, D.sl false false Ty.bool g.R, D.sl false false Ty.bool g.L], D.v (Value.int IntKind.i64 (ts.getD (o + 0) (Ty.int IntKind.i64).dflt))] (D.own 0 0 (nearF g (ts.getD (o + 0) (Ty.int IntKind.i64).dflt)).length none) [] [Row.data 3 (Ty.int IntKind.i64) (nearF g (ts.getD (o + 0) (Ty.int IntKind.i64).dflt))] ∧ Value.int IntKind.i64 g.h = Value.int IntKind.i64 g.h ∧ Value.int IntKind.i64 g.w = Value.int IntKind.i64 g.w ∧ g.B = g.B ∧ g.R = g.R ∧ g.L = g.L ∧ Value.int IntKind.i64 (ts.getD (o + 0) (Ty.int IntKind.i64).dflt) = Value.int IntKind.i64 (ts.getD (o + 0) (Ty.int IntKind.i64).dflt) ∧ SameK (KK g10 1) (KK g10 1) ∧ G 1 (stOf 139 [1, 2, 5, 6, 7, 8, 53, 54, 55] [D.v (Value.int IntKind.i64 a), D.ptr 0 0 0, D.own 1 0 (partsF g).fst.length none, D.v (Value.int IntKind.i64 (partsF g).snd), D.own 2 0 (partsF g).fst.length (some (partsF g).fst.length), D.own 3 o l none, D.own 4 0 (nearF g (ts.getD (o + 0) (Ty.int IntKind.i64).dflt)).length none, D.v (Value.int IntKind.i64 (↑(nearF g (ts.getD (o + 0) (Ty.int IntKind.i64).dflt)).length : Int)), D.v (Value.int IntKind.i64 (0 : Int))] [Slot.live (Row.box 35 [D.v (Value.int IntKind.i64 g.h), D.v (Value.int IntKind.i64 g.w), D.sl false false Ty.bool g.B, D.sl false false Ty.bool g.R, D.sl false false Ty.bool g.L]), Slot.live (Row.data 3 (Ty.int IntKind.i64) (partsF g).fst), Slot.live (Row.data 4 Ty.bool s), Slot.live (Row.data 3 (Ty.int IntKind.i64) ts), Slot.live (Row.data 3 (Ty.int IntKind.i64) (nearF g (ts.getD (o + 0) (Ty.int IntKind.i64).dflt)))])) ∧ (decide ((↑l : Int) > (0 : Int)) = false → SameK (KK g10 2) (KK g10 2) ∧ G 2 (stOf 139 [1, 2, 5, 6, 7, 11, 81, 82] [D.v (Value.int IntKind.i64 a), D.ptr 0 0 0, D.own 1 0 (partsF g).fst.length none, D.v (Value.int IntKind.i64 (partsF g).snd), D.own 2 0 (partsF g).fst.length (some (partsF g).fst.length), D.v (Value.int IntKind.i64 (0 : Int)), D.v (Value.int IntKind.i64 (↑(partsF g).fst.length : Int)), D.v (Value.int IntKind.i64 (0 : Int))] [Slot.live (Row.box 35 [D.v (Value.int IntKind.i64 g.h), D.v (Value.int IntKind.i64 g.w), D.sl false false Ty.bool g.B, D.sl false false Ty.bool g.R, D.sl false false Ty.bool g.L]), Slot.live (Row.data 3 (Ty.int IntKind.i64) (partsF g).fst), Slot.live (Row.data 4 Ty.bool s)]))) hmG (fun G R => by kernel_rfl) ?_
    try dsimp only
    simp only [Nat.add_zero, Ty.dflt, Int.toNat_natCast, show (0 : Int).toNat = 0 from rfl]
    refine ⟨fun hl => ?_, fun hl => ⟨SameK.same _, ?_⟩⟩
    · rw [decide_eq_true_eq] at hl
      have P := T.look (by omega)
      have := e10_1 g a M (by omega) (ih (by omega)) pl (by omega) _ (near_le g (ts.getD o 0)) (ts.getD o 0) _ 0 o l s ts (by omega) (Int.zero_add _) P hm
      refine ⟨by omega, by omega, by omega, d39 g _, trivial, trivial, trivial, trivial, trivial, trivial, SameK.same _, this⟩
    · rw [decide_eq_false_iff_not] at hl
      have : l = 0 := by omega
      subst this
      exact stop o s ts T

theorem d10 (g : Gr) (a : Int)  : Con Try.prog 10 [] [g.d, .v (.int .i64 a)] ((.v (.bool true))) [] [] := by
  refine con_vc (how := [none]) (c := g10) (K := (KK g10)) spP (fun k => [[1,2,5,6,7,8],[1,2,5,6,7,8,53,54,55],[1,2,5,6,7,11,81,82]].getD k []) (fun k => if k = 0 then [⟨8, 3, .int .i64⟩] else []) 400 (.fork .stop (.fork .stop (.fork (.t .stop) (.fork .stop (.hd 0))))) (V := fun G R => Con Try.prog 31 [] [] (D.v (Value.bool true)) [] [] ∧ ((!true) = true → R (D.v (Value.bool false), [], [])) ∧ ((!true) = false → Con Try.prog 50 [] [D.agg [D.v (Value.int IntKind.i64 g.h), D.v (Value.int IntKind.i64 g.w), D.sl false false Ty.bool g.B, D.sl false false Ty.bool g.R, D.sl false false Ty.bool g.L]] (D.tup [D.own 0 0 (partsF g).fst.length none, D.v (Value.int IntKind.i64 (partsF g).snd)]) [] [Row.data 3 (Ty.int IntKind.i64) (partsF g).fst] ∧ Value.int IntKind.i64 g.h = Value.int IntKind.i64 g.h ∧ Value.int IntKind.i64 g.w = Value.int IntKind.i64 g.w ∧ g.B = g.B ∧ g.R = g.R ∧ g.L = g.L ∧ Con Try.prog 45 [] [D.agg [D.v (Value.int IntKind.i64 g.h), D.v (Value.int IntKind.i64 g.w), D.sl false false Ty.bool g.B, D.sl false false Ty.bool g.R, D.sl false false Ty.bool g.L], D.v (Value.int IntKind.i64 a)] (D.v (Value.bool (openF g a))) [] [] ∧ Value.int IntKind.i64 g.h = Value.int IntKind.i64 g.h ∧ Value.int IntKind.i64 g.w = Value.int IntKind.i64 g.w ∧ g.B = g.B ∧ g.R = g.R ∧ g.L = g.L ∧ Value.int IntKind.i64 a = Value.int IntKind.i64 a ∧ ((!openF g a) = true → R (D.v (Value.bool true), [], [])) ∧ ((!openF g a) = false → (((↑(partsF g).fst.length : Int) != (↑g.B.length : Int)) = true → true = true ∧ R (D.v (Value.bool false), [], [])) ∧ (((↑(partsF g).fst.length : Int) != (↑g.B.length : Int)) = false → (decide (a ≥ (↑(partsF g).fst.length : Int)) = true → R (D.v (Value.bool false), [], [])) ∧ (decide (a ≥ (↑(partsF g).fst.length : Int)) = false → (0 : Int) ≤ (↑(partsF g).fst.length : Int) ∧ (↑(partsF g).fst.length : Int) ≤ (↑(partsF g).fst.length : Int) ∧ (↑(partsF g).fst.length : Int) ≤ (9223372036854775807 : Int) ∧ (↑(partsF g).fst.length : Int).toNat * 1 ≤ 281474976710656 ∧ (0 : Int) ≤ a ∧ a < (↑(↑(partsF g).fst.length : Int).toNat : Int) ∧ 0 + a.toNat < (List.replicate (↑(partsF g).fst.length : Int).toNat false).length ∧ SameK (KK g10 0) (KK g10 0) ∧ G 0 (stOf 139 [1, 2, 5, 6, 7, 8] [D.v (Value.int IntKind.i64 a), D.ptr 0 0 0, D.own 1 0 (partsF g).fst.length none, D.v (Value.int IntKind.i64 (partsF g).snd), D.own 2 0 (↑(partsF g).fst.length : Int).toNat (some (↑(partsF g).fst.length : Int).toNat), D.own 3 0 1 none] [Slot.live (Row.box 35 [D.v (Value.int IntKind.i64 g.h), D.v (Value.int IntKind.i64 g.w), D.sl false false Ty.bool g.B, D.sl false false Ty.bool g.R, D.sl false false Ty.bool g.L]), Slot.live (Row.data 3 (Ty.int IntKind.i64) (partsF g).fst), Slot.live (Row.data 4 Ty.bool ((List.replicate (↑(partsF g).fst.length : Int).toNat false).set (0 + a.toNat) true)), Slot.live (Row.data 3 (Ty.int IntKind.i64) [a])])))))) hmG Try.func10 (by kernel_rfl) (by kernel_rfl) (fun G R => by kernel_rfl) ?_
  try dsimp only
  have hpl := parts_len g
  rcases Bool.eq_false_or_eq_true (openF g a) with ho | ho
  rotate_left
  · rw [ho]
    simp (disch := omega) only [ho, wrG, sameK_iff, true_and, and_true, decide_eq_true_eq, decide_eq_false_iff_not, ne_eq, not_false_eq_true, Bool.false_eq_true, Bool.true_eq_false, false_implies, true_implies, Ty.dflt, reduceCtorEq, beq_iff_eq, bne_iff_ne, beq_eq_false_iff_ne, bne_eq_false_iff_eq, Bool.not_eq_true, Bool.not_eq_eq_eq_not, Bool.not_true, Bool.not_false, gt_iff_lt, ge_iff_le, Int.not_lt, Int.not_le]
    repeat' (first | with_reducible refine And.intro ?_ ?_ | intro _)
    all_goals first | rfl | trivial | omega | exact d31 | exact d50 g | (have := d45 g a; rw [ho] at this; exact this) | skip
  · obtain ⟨hc, a0, a1, _⟩ := open_in ho
    have hp := parts_are hc
    have hw := hw_in (chk0.1 hc).1 (chk0.1 hc).2.1
    obtain ⟨_, _, sz, _⟩ := chk0.1 hc
    have s3 := size3 sz
    have pl := hp.len
    rw [ho]
    simp (disch := omega) only [Int.toNat_natCast, Ty.dflt, Nat.zero_add, List.length_replicate]
    repeat' (first | with_reducible refine And.intro ?_ ?_ | intro _)
    all_goals first | rfl | trivial | omega | exact d31 | exact d50 g | (have := d45 g a; rw [ho] at this; exact this) | (exfalso; simp_all; done) | (exfalso; simp_all; omega) | skip
    have e : ∀ x, 0 ≤ x → bAt ((List.replicate (partsF g).1.length false).set a.toNat true) x = decide (x = a) := by
      intro x x0
      rw [bAt_set x0 a0 (by simp; omega)]
      split
      · simp [*]
      · unfold bAt
        rw [List.getD_eq_getElem?_getD, List.getElem?_replicate]
        split <;> simp [*]
    refine e10_0 g a hp ho 1000 (by omega) 0 1 _ _ ⟨by simp; omega, by rw [e a a0]; simp, fun x x0 x1 hx => ?_, rfl, fun x hx => ?_, fun x hx hx2 => ?_⟩ ?_
    · rw [e x x0] at hx
      have : x = a := of_decide_eq_true hx
      subst this
      exact ⟨ho, .refl _⟩
    · simp only [List.drop_zero, List.mem_singleton] at hx
      subst hx
      exact ⟨ho, by rw [e _ a0]; simp⟩
    · rw [e x (open_in hx).2.1] at hx2
      have : x = a := of_decide_eq_true hx2
      subst this
      simp
    · have : uns ((List.replicate (partsF g).1.length false).set a.toNat true) ≤ 256 := by
        unfold uns
        have := List.length_filter_le (fun c => !c) ((List.replicate (partsF g).1.length false).set a.toNat true)
        simp only [List.length_set, List.length_replicate] at this
        omega
      omega

end Go.Proofs.YtnakmganodkliaaAm
