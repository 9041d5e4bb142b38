/- What the law of narrowing leans on: the logic and the contracts of the functions that it calls (part 6) -/
import Derived.Test.YtnakmganodkliaaPe
set_option linter.unusedVariables false
set_option linter.unusedSimpArgs false
set_option maxRecDepth 100000
namespace Go.Proofs.YtnakmganodkliaaAm
open Go
def vq39 (C : List Int) (C2 : List Int) (W : List (List Int)) (W2 : List (List Int)) (o : Bool) (o2 : Bool) (i : Int) (G : Nat → St → Prop) (R : D × List (Option Row) × List Row → Prop) : Prop := let yy0 := (Ty.int IntKind.i64); let yy1 := (W.getD i.toNat yy0.sl.dflt = W2.getD i.toNat yy0.sl.dflt); (decide (i < (↑W.length : Int)) = true → (0 : Int) ≤ i ∧ i < (↑W.length : Int) ∧ (0 : Int) ≤ i ∧ i < (↑W2.length : Int) ∧ Con Try.prog 41 [] [D.sl false false yy0 (W.getD i.toNat yy0.sl.dflt), D.sl false false yy0 (W2.getD i.toNat yy0.sl.dflt)] (D.v (Value.bool (decide yy1))) [] [] ∧ W.getD i.toNat yy0.sl.dflt = W.getD i.toNat yy0.sl.dflt ∧ W2.getD i.toNat yy0.sl.dflt = W2.getD i.toNat yy0.sl.dflt ∧ ((!decide yy1) = true → R (D.v (Value.bool false), [], [])) ∧ ((!decide yy1) = false → SameK (KK n61 0) (KK n61 0) ∧ G 0 (stOf 47 [2, 3, 5] [D.ptr 0 0 0, D.ptr 1 0 0, D.v (Value.int IntKind.i64 (IntKind.i64.wrap (i + (1 : Int))))] [Slot.live (Row.box 71 [D.sl false false (Ty.int IntKind.u64) C, D.sl false false yy0.sl W, D.v (Value.bool o)]), Slot.live (Row.box 71 [D.sl false false (Ty.int IntKind.u64) C2, D.sl false false yy0.sl W2, D.v (Value.bool o2)])]))) ∧ (decide (i < (↑W.length : Int)) = false → R (D.v (Value.bool true), [], []))
theorem e61 (C C2 : List Int) (W W2 : List (List Int)) (o o2 : Bool) (hl : W.length = W2.length) (hW : W.length ≤ 5864062014805) (hw : ∀ w ∈ W, w.length ≤ 17592186044416) (z : Nat) : ∀ (i : Int), 0 ≤ i → i + z = W.length → ∀ r, r = decide (W.drop i.toNat = W2.drop i.toNat) → GetsK Try.prog Try.f61.results.toList [none] (KK n61) 0 (.v (.bool r), [], []) 0 (stOf 47 [2,3,5] [.ptr 0 0 0, .ptr 1 0 0, .v (.int .i64 i)] [.live (.box 71 [slN C, slW W, .v (.bool o)]), .live (.box 71 [slN C2, slW W2, .v (.bool o2)])]) := by
  induction z with
  | zero =>
    intro i i0 hi r hr
    rw [List.drop_eq_nil_of_le (by omega), List.drop_eq_nil_of_le (by omega)] at hr
    have hr : r = true := by rw [hr]; rfl
    rw [hr]
    refine gets_vc spNb (fun _ => [2,3,5]) (fun _ => []) 400 (.fork (.fork .stop (.hd 0)) .stop) (V := vq39 C C2 W W2 o o2 i) hmG (fun G R => by kernel_rfl) ?_
    unfold vq39
    try dsimp only
    simp (disch := omega) only [wrG, sameK_iff, true_and, and_true, decide_eq_true_eq, decide_eq_false_iff_not, ne_eq, not_false_eq_true, Bool.false_eq_true, Bool.true_eq_false, false_implies, true_implies, Ty.dflt, reduceCtorEq, beq_iff_eq, bne_iff_ne, beq_eq_false_iff_ne, bne_eq_false_iff_eq, Bool.not_eq_true, Bool.not_eq_eq_eq_not, Bool.not_true, Bool.not_false, gt_iff_lt, ge_iff_le, Int.not_lt, Int.not_le]
    repeat' (first | with_reducible refine And.intro ?_ ?_ | intro _)
    all_goals first | rfl | omega | assumption | trivial | (exfalso; simp_all; done) | (exfalso; omega) | skip
  | succ z ih =>
    intro i i0 hi r hr
    rw [drop_at (xs := W) (i := i) ([] : List Int) i0 (by omega), drop_at (xs := W2) (i := i) ([] : List Int) i0 (by omega)] at hr
    have hk1 : IntKind.i64.wrap (i + 1) = i + 1 := wrG (by omega) (by omega)
    have hx := ih (i + 1) (by omega) (by omega) _ rfl
    have c1 := d41 (W.getD i.toNat []) (W2.getD i.toNat []) (by have := hw _ (getD_in (d := []) (k := i.toNat) (l := W) (by omega)); omega)
    refine gets_vc spNb (fun _ => [2,3,5]) (fun _ => []) 400 (.fork (.fork .stop (.hd 0)) .stop) (V := vq39 C C2 W W2 o o2 i) hmG (fun G R => by kernel_rfl) ?_
    unfold vq39
    try dsimp only
    simp only [Ty.dflt, hk1]
    by_cases h : W.getD i.toNat [] = W2.getD i.toNat []
    · have hr : r = decide (W.drop (i + 1).toNat = W2.drop (i + 1).toNat) := by
        rw [hr]
        simp only [List.cons.injEq, h, true_and]
      rw [← hr] at hx
      simp only [h, decide_true] at c1
      simp only [h, decide_true]
      simp (disch := omega) only [wrG, sameK_iff, true_and, and_true, decide_eq_true_eq, decide_eq_false_iff_not, ne_eq, not_false_eq_true, Bool.false_eq_true, Bool.true_eq_false, false_implies, true_implies, Ty.dflt, reduceCtorEq, beq_iff_eq, bne_iff_ne, beq_eq_false_iff_ne, bne_eq_false_iff_eq, Bool.not_eq_true, Bool.not_eq_eq_eq_not, Bool.not_true, Bool.not_false, gt_iff_lt, ge_iff_le, Int.not_lt, Int.not_le]
      repeat' (first | with_reducible refine And.intro ?_ ?_ | intro _)
      all_goals first | rfl | omega | assumption | trivial | (exfalso; simp_all; done) | (exfalso; omega) | skip
    · have hr : r = false := by
        rw [hr]
        refine decide_eq_false (fun e => h ?_)
        rw [List.cons.injEq] at e
        exact e.1
      rw [hr]
      simp only [h, decide_false] at c1
      simp only [h, decide_false]
      simp (disch := omega) only [wrG, sameK_iff, true_and, and_true, decide_eq_true_eq, decide_eq_false_iff_not, ne_eq, not_false_eq_true, Bool.false_eq_true, Bool.true_eq_false, false_implies, true_implies, Ty.dflt, reduceCtorEq, beq_iff_eq, bne_iff_ne, beq_eq_false_iff_ne, bne_eq_false_iff_eq, Bool.not_eq_true, Bool.not_eq_eq_eq_not, Bool.not_true, Bool.not_false, gt_iff_lt, ge_iff_le, Int.not_lt, Int.not_le]
      repeat' (first | with_reducible refine And.intro ?_ ?_ | intro _)
      all_goals first | rfl | omega | assumption | trivial | (exfalso; simp_all; done) | (exfalso; omega) | skip
theorem d61 (C C2 : List Int) (W W2 : List (List Int)) (o o2 : Bool) (hC1 : C.length ≤ 17592186044416) (hW : W.length ≤ 5864062014805) (hw : ∀ w ∈ W, w.length ≤ 17592186044416) : Con Try.prog 61 [] [.agg [slN C, slW W, .v (.bool o)], .agg [slN C2, slW W2, .v (.bool o2)]] (.v (.bool (decide (C = C2 ∧ W = W2 ∧ o = o2)))) [] [] := by
  refine con_vc (how := [none]) (c := n61) (K := (KK n61)) spNb (fun _ => [2,3,5]) (fun _ => []) 400 (.fork (.t (.t .stop)) (.fork (.t .stop) (.fork .stop (.hd 0)))) (V := fun G R => Con Try.prog 102 [] [D.sl false false (Ty.int IntKind.u64) C, D.sl false false (Ty.int IntKind.u64) C2] (D.v (Value.bool (decide (C = C2)))) [] [] ∧ C = C ∧ C2 = C2 ∧ ((!decide (C = C2)) = true → true = true ∧ true = true ∧ R (D.v (Value.bool false), [], [])) ∧ ((!decide (C = C2)) = false → (((↑W.length : Int) != (↑W2.length : Int)) = true → true = true ∧ R (D.v (Value.bool false), [], [])) ∧ (((↑W.length : Int) != (↑W2.length : Int)) = false → ((!o == o2) = true → R (D.v (Value.bool false), [], [])) ∧ ((!o == o2) = false → SameK (KK n61 0) (KK n61 0) ∧ G 0 (stOf 47 [2, 3, 5] [D.ptr 0 0 0, D.ptr 1 0 0, D.v (Value.int IntKind.i64 (0 : Int))] [Slot.live (Row.box 71 [D.sl false false (Ty.int IntKind.u64) C, D.sl false false (Ty.int IntKind.i64).sl W, D.v (Value.bool o)]), Slot.live (Row.box 71 [D.sl false false (Ty.int IntKind.u64) C2, D.sl false false (Ty.int IntKind.i64).sl W2, D.v (Value.bool o2)])]))))) hmG Try.func61 (by kernel_rfl) (by kernel_rfl) (fun G R => by kernel_rfl) ?_
  try dsimp only
  have c1 := d102 C C2 (by omega)
  by_cases hC : C = C2
  · subst hC
    simp only [eq_self, decide_true] at c1
    by_cases hl : W.length = W2.length
    · by_cases ho : o = o2
      · subst ho
        have hx := e61 C C W W2 o o hl hW hw W.length 0 (by omega) (by omega) _ rfl
        have e : decide (C = C ∧ W = W2 ∧ o = o) = decide (W = W2) := by simp only [true_and, and_true]
        rw [e]
        simp only [show (0 : Int).toNat = 0 by rfl, List.drop_zero] at hx
        have hol : (o != o) = false := by cases o <;> rfl
        have hll : ((W.length : Int) != (W2.length : Int)) = false := by rw [hl]; simp
        simp only [eq_self, decide_true, hol, hll, Bool.not_true]
        simp (disch := omega) only [wrG, sameK_iff, true_and, and_true, decide_eq_true_eq, decide_eq_false_iff_not, ne_eq, not_false_eq_true, Bool.false_eq_true, Bool.true_eq_false, false_implies, true_implies, Ty.dflt, reduceCtorEq, beq_iff_eq, bne_iff_ne, beq_eq_false_iff_ne, bne_eq_false_iff_eq, Bool.not_eq_true, Bool.not_eq_eq_eq_not, Bool.not_true, Bool.not_false, gt_iff_lt, ge_iff_le, Int.not_lt, Int.not_le]
        repeat' (first | with_reducible refine And.intro ?_ ?_ | intro _)
        all_goals first | rfl | omega | assumption | trivial | (exfalso; simp_all; done) | (exfalso; omega) | skip
      · have e : decide (C = C ∧ W = W2 ∧ o = o2) = false := decide_eq_false (fun q => ho q.2.2)
        have hol : (o != o2) = true := by rw [bne_iff_ne]; exact ho
        have hll : ((W.length : Int) != (W2.length : Int)) = false := by rw [hl]; simp
        rw [e]
        simp only [eq_self, decide_true, hol, hll, Bool.not_true]
        simp (disch := omega) only [wrG, sameK_iff, true_and, and_true, decide_eq_true_eq, decide_eq_false_iff_not, ne_eq, not_false_eq_true, Bool.false_eq_true, Bool.true_eq_false, false_implies, true_implies, Ty.dflt, reduceCtorEq, beq_iff_eq, bne_iff_ne, beq_eq_false_iff_ne, bne_eq_false_iff_eq, Bool.not_eq_true, Bool.not_eq_eq_eq_not, Bool.not_true, Bool.not_false, gt_iff_lt, ge_iff_le, Int.not_lt, Int.not_le]
        repeat' (first | with_reducible refine And.intro ?_ ?_ | intro _)
        all_goals first | rfl | omega | assumption | trivial | (exfalso; simp_all; done) | (exfalso; omega) | skip
    · have e : decide (C = C ∧ W = W2 ∧ o = o2) = false := decide_eq_false (fun q => hl (by rw [q.2.1]))
      have hll : ((W.length : Int) != (W2.length : Int)) = true := by rw [bne_iff_ne]; omega
      rw [e]
      simp only [eq_self, decide_true, hll, Bool.not_true]
      simp (disch := omega) only [wrG, sameK_iff, true_and, and_true, decide_eq_true_eq, decide_eq_false_iff_not, ne_eq, not_false_eq_true, Bool.false_eq_true, Bool.true_eq_false, false_implies, true_implies, Ty.dflt, reduceCtorEq, beq_iff_eq, bne_iff_ne, beq_eq_false_iff_ne, bne_eq_false_iff_eq, Bool.not_eq_true, Bool.not_eq_eq_eq_not, Bool.not_true, Bool.not_false, gt_iff_lt, ge_iff_le, Int.not_lt, Int.not_le]
      repeat' (first | with_reducible refine And.intro ?_ ?_ | intro _)
      all_goals first | rfl | omega | assumption | trivial | (exfalso; simp_all; done) | (exfalso; omega) | skip
  · have e : decide (C = C2 ∧ W = W2 ∧ o = o2) = false := decide_eq_false (fun q => hC q.1)
    simp only [hC, decide_false] at c1
    rw [e]
    simp only [hC, decide_false, Bool.not_false]
    simp (disch := omega) only [wrG, sameK_iff, true_and, and_true, decide_eq_true_eq, decide_eq_false_iff_not, ne_eq, not_false_eq_true, Bool.false_eq_true, Bool.true_eq_false, false_implies, true_implies, Ty.dflt, reduceCtorEq, beq_iff_eq, bne_iff_ne, beq_eq_false_iff_ne, bne_eq_false_iff_eq, Bool.not_eq_true, Bool.not_eq_eq_eq_not, Bool.not_true, Bool.not_false, gt_iff_lt, ge_iff_le, Int.not_lt, Int.not_le]
    repeat' (first | with_reducible refine And.intro ?_ ?_ | intro _)
    all_goals first | rfl | omega | assumption | trivial | (exfalso; simp_all; done) | (exfalso; omega) | skip
theorem e58 (g : Gr) (W : List (List Int)) (M : List Nat) (hW : W.length ≤ 5864062014805) (hw : ∀ w ∈ W, w.length ≤ 17592186044416) (z : Nat) : ∀ (i : Int) (V : List (List Int)), 0 ≤ i → i + z = W.length → V = W.take i.toNat → GetsK Try.prog Try.f58.results.toList [none] (KK n58) 0 (.agg [.v (.int .i64 g.h), .v (.int .i64 g.w), .own 0 0 g.B.length none, .own 1 0 g.R.length none, .own 2 0 g.L.length none, .own 3 0 W.length none, .own 4 0 M.length none], [], [.data 4 .bool g.B, .data 4 .bool g.R, .data 4 .bool g.L, .data 46 WT W, .data 80 (.int .u64) (Mi M)]) 0 (stOf 52 [1,2,3,4] [.ptr 0 0 0, .ptr 1 0 0, .ptr 2 0 0, .v (.int .i64 i)] [.live (.box 68 [.v (.int .i64 g.h), .v (.int .i64 g.w), .sl false false .bool g.B, .sl false false .bool g.R, .sl false false .bool g.L, slW W, slU M]), .live (.box 68 [.v (.int .i64 0), .v (.int .i64 0), .v (.slice none 0 0), .v (.slice none 0 0), .v (.slice none 0 0), .v (.slice none 0 0), .v (.slice none 0 0)]), .live (.box 68 [.v (.int .i64 g.h), .v (.int .i64 g.w), .own 3 0 g.B.length none, .own 4 0 g.R.length none, .own 5 0 g.L.length none, .own 6 0 V.length none, .own 7 0 M.length none]), .live (.data 4 .bool g.B), .live (.data 4 .bool g.R), .live (.data 4 .bool g.L), .live (.data 46 WT V), .live (.data 80 (.int .u64) (Mi M))]) := by
  induction z with
  | zero =>
    intro i V i0 hi hV
    rw [List.take_of_length_le (by omega)] at hV
    rw [hV]
    refine gets_vc spNb (fun _ => [1,2,3,4]) (fun k => if k = 0 then [⟨50003, 46, WT⟩] else []) 400 (.fork (.hd 0) .stop) (V := fun G R => let yy0 := (Ty.int IntKind.i64); let yy1 := (Value.slice none 0 0); (decide (i < (↑W.length : Int)) = true → (0 : Int) ≤ i ∧ i < (↑W.length : Int) ∧ roomy Try.prog 3 (0 + List.length (W.getD i.toNat yy0.sl.dflt)) ∧ roomy Try.prog 46 (W.length + 1) ∧ SameK (KK n58 0) (KK n58 0) ∧ G 0 (stOf 52 [1, 2, 3, 4] [D.ptr 0 0 0, D.ptr 1 0 0, D.ptr 2 0 0, D.v (Value.int IntKind.i64 (IntKind.i64.wrap (i + (1 : Int))))] [Slot.live (Row.box 68 [D.v (Value.int IntKind.i64 g.h), D.v (Value.int IntKind.i64 g.w), D.sl false false Ty.bool g.B, D.sl false false Ty.bool g.R, D.sl false false Ty.bool g.L, D.sl false false yy0.sl W, D.sl false false (Ty.int IntKind.u64) (Mi M)]), Slot.live (Row.box 68 [D.v (Value.int IntKind.i64 (0 : Int)), D.v (Value.int IntKind.i64 (0 : Int)), D.v yy1, D.v yy1, D.v yy1, D.v yy1, D.v yy1]), Slot.live (Row.box 68 [D.v (Value.int IntKind.i64 g.h), D.v (Value.int IntKind.i64 g.w), D.own 3 0 g.B.length none, D.own 4 0 g.R.length none, D.own 5 0 g.L.length none, D.own 6 0 (W.length + 1) none, D.own 7 0 M.length none]), Slot.live (Row.data 4 Ty.bool g.B), Slot.live (Row.data 4 Ty.bool g.R), Slot.live (Row.data 4 Ty.bool g.L), Slot.live (Row.data 46 yy0.sl (List.take W.length (List.drop 0 W) ++ List.take 1 (List.drop 0 [List.take (0 + List.length (W.getD i.toNat yy0.sl.dflt)) (List.drop 0 (List.take 0 (List.drop 0 []) ++ W.getD i.toNat yy0.sl.dflt))]))), Slot.live (Row.data 80 (Ty.int IntKind.u64) (Mi M))])) ∧ (decide (i < (↑W.length : Int)) = false → R (D.agg [D.v (Value.int IntKind.i64 g.h), D.v (Value.int IntKind.i64 g.w), D.own 0 0 g.B.length none, D.own 1 0 g.R.length none, D.own 2 0 g.L.length none, D.own 3 0 W.length none, D.own 4 0 M.length none], [], [Row.data 4 Ty.bool g.B, Row.data 4 Ty.bool g.R, Row.data 4 Ty.bool g.L, Row.data 46 yy0.sl W, Row.data 80 (Ty.int IntKind.u64) (Mi M)]))) hmG (fun G R => by kernel_rfl) ?_
    try dsimp only
    simp only [take_len, List.drop_zero, List.take_length, Mi_getD, Mi_len, Nt_Mi, Int.toNat_natCast, Mi_set, Nat.zero_add, Nat.sub_zero, List.length_set, take_one, takeSn, List.take_zero, List.nil_append, List.length_append, List.length_cons, List.length_nil]
    simp (disch := omega) only [wrG, sameK_iff, true_and, and_true, decide_eq_true_eq, decide_eq_false_iff_not, ne_eq, not_false_eq_true, Bool.false_eq_true, Bool.true_eq_false, false_implies, true_implies, Ty.dflt, reduceCtorEq, beq_iff_eq, bne_iff_ne, beq_eq_false_iff_ne, bne_eq_false_iff_eq, Bool.not_eq_true, Bool.not_eq_eq_eq_not, Bool.not_true, Bool.not_false, gt_iff_lt, ge_iff_le, Int.not_lt, Int.not_le]
    repeat' (first | with_reducible refine And.intro ?_ ?_ | intro _)
    all_goals first | rfl | omega | assumption | trivial | exact roomW (by omega) | exact roomI (by omega) | exact roomU (by omega) | exact roomB (by omega) | (exfalso; simp_all; done) | (exfalso; omega) | skip
  | succ z ih =>
    intro i V i0 hi hV
    have hk1 : IntKind.i64.wrap (i + 1) = i + 1 := wrG (by omega) (by omega)
    have ht := take_succ_at ([] : List Int) W i0 (by omega)
    obtain ⟨w, hww⟩ : ∃ w, W.getD i.toNat [] = w := ⟨_, rfl⟩
    have hwl : w.length ≤ 17592186044416 := by rw [← hww]; exact hw _ (getD_in (by omega))
    rw [hww] at ht
    have hVl : V.length = i.toNat := by rw [hV, List.length_take]; omega
    have hx := ih (i + 1) (V ++ [w]) (by omega) (by omega) (by rw [ht, hV])
    rw [List.length_append, List.length_cons, List.length_nil] at hx
    refine gets_vc spNb (fun _ => [1,2,3,4]) (fun k => if k = 0 then [⟨50003, 46, WT⟩] else []) 400 (.fork (.hd 0) .stop) (V := fun G R => let yy0 := (Ty.int IntKind.i64); let yy1 := (Value.slice none 0 0); (decide (i < (↑W.length : Int)) = true → (0 : Int) ≤ i ∧ i < (↑W.length : Int) ∧ roomy Try.prog 3 (0 + List.length (W.getD i.toNat yy0.sl.dflt)) ∧ roomy Try.prog 46 (V.length + 1) ∧ SameK (KK n58 0) (KK n58 0) ∧ G 0 (stOf 52 [1, 2, 3, 4] [D.ptr 0 0 0, D.ptr 1 0 0, D.ptr 2 0 0, D.v (Value.int IntKind.i64 (IntKind.i64.wrap (i + (1 : Int))))] [Slot.live (Row.box 68 [D.v (Value.int IntKind.i64 g.h), D.v (Value.int IntKind.i64 g.w), D.sl false false Ty.bool g.B, D.sl false false Ty.bool g.R, D.sl false false Ty.bool g.L, D.sl false false yy0.sl W, D.sl false false (Ty.int IntKind.u64) (Mi M)]), Slot.live (Row.box 68 [D.v (Value.int IntKind.i64 (0 : Int)), D.v (Value.int IntKind.i64 (0 : Int)), D.v yy1, D.v yy1, D.v yy1, D.v yy1, D.v yy1]), Slot.live (Row.box 68 [D.v (Value.int IntKind.i64 g.h), D.v (Value.int IntKind.i64 g.w), D.own 3 0 g.B.length none, D.own 4 0 g.R.length none, D.own 5 0 g.L.length none, D.own 6 0 (V.length + 1) none, D.own 7 0 M.length none]), Slot.live (Row.data 4 Ty.bool g.B), Slot.live (Row.data 4 Ty.bool g.R), Slot.live (Row.data 4 Ty.bool g.L), Slot.live (Row.data 46 yy0.sl (List.take V.length (List.drop 0 V) ++ List.take 1 (List.drop 0 [List.take (0 + List.length (W.getD i.toNat yy0.sl.dflt)) (List.drop 0 (List.take 0 (List.drop 0 []) ++ W.getD i.toNat yy0.sl.dflt))]))), Slot.live (Row.data 80 (Ty.int IntKind.u64) (Mi M))])) ∧ (decide (i < (↑W.length : Int)) = false → R (D.agg [D.v (Value.int IntKind.i64 g.h), D.v (Value.int IntKind.i64 g.w), D.own 0 0 g.B.length none, D.own 1 0 g.R.length none, D.own 2 0 g.L.length none, D.own 3 0 V.length none, D.own 4 0 M.length none], [], [Row.data 4 Ty.bool g.B, Row.data 4 Ty.bool g.R, Row.data 4 Ty.bool g.L, Row.data 46 yy0.sl V, Row.data 80 (Ty.int IntKind.u64) (Mi M)]))) hmG (fun G R => by kernel_rfl) ?_
    try dsimp only
    simp only [Ty.dflt, hk1, hww, take_len, List.drop_zero, List.take_length, Mi_getD, Mi_len, Nt_Mi, Int.toNat_natCast, Mi_set, Nat.zero_add, Nat.sub_zero, List.length_set, take_one, takeSn, List.take_zero, List.nil_append, List.length_append, List.length_cons, List.length_nil]
    simp (disch := omega) only [wrG, sameK_iff, true_and, and_true, decide_eq_true_eq, decide_eq_false_iff_not, ne_eq, not_false_eq_true, Bool.false_eq_true, Bool.true_eq_false, false_implies, true_implies, Ty.dflt, reduceCtorEq, beq_iff_eq, bne_iff_ne, beq_eq_false_iff_ne, bne_eq_false_iff_eq, Bool.not_eq_true, Bool.not_eq_eq_eq_not, Bool.not_true, Bool.not_false, gt_iff_lt, ge_iff_le, Int.not_lt, Int.not_le]
    repeat' (first | with_reducible refine And.intro ?_ ?_ | intro _)
    all_goals first | rfl | omega | assumption | trivial | exact roomW (by omega) | exact roomI (by omega) | exact roomU (by omega) | exact roomB (by omega) | (exfalso; simp_all; done) | (exfalso; omega) | skip
theorem d58 (g : Gr) (W : List (List Int)) (M : List Nat) (hg : g.fits) (hW : W.length ≤ 5864062014805) (hw : ∀ w ∈ W, w.length ≤ 17592186044416) (hM : M.length ≤ 17592186044416) : Con Try.prog 58 [] [.agg [.v (.int .i64 g.h), .v (.int .i64 g.w), .sl false false .bool g.B, .sl false false .bool g.R, .sl false false .bool g.L, slW W, slU M]] (.agg [.v (.int .i64 g.h), .v (.int .i64 g.w), .own 0 0 g.B.length none, .own 1 0 g.R.length none, .own 2 0 g.L.length none, .own 3 0 W.length none, .own 4 0 M.length none]) [] [.data 4 .bool g.B, .data 4 .bool g.R, .data 4 .bool g.L, .data 46 WT W, .data 80 (.int .u64) (Mi M)] := by
  refine con_vc (how := [none]) (c := n58) (K := (KK n58)) spNb (fun _ => [1,2,3,4]) (fun k => if k = 0 then [⟨50003, 46, WT⟩] else []) 400 (.hd 0) (V := fun G R => let yy0 := (Value.slice none 0 0); roomy Try.prog 4 (0 + g.B.length) ∧ roomy Try.prog 4 (0 + g.R.length) ∧ roomy Try.prog 4 (0 + g.L.length) ∧ roomy Try.prog 80 (0 + (Mi M).length) ∧ SameK (KK n58 0) (KK n58 0) ∧ G 0 (stOf 52 [1, 2, 3, 4] [D.ptr 0 0 0, D.ptr 1 0 0, D.ptr 2 0 0, D.v (Value.int IntKind.i64 (0 : Int))] [Slot.live (Row.box 68 [D.v (Value.int IntKind.i64 g.h), D.v (Value.int IntKind.i64 g.w), D.sl false false Ty.bool g.B, D.sl false false Ty.bool g.R, D.sl false false Ty.bool g.L, D.sl false false (Ty.int IntKind.i64).sl W, D.sl false false (Ty.int IntKind.u64) (Mi M)]), Slot.live (Row.box 68 [D.v (Value.int IntKind.i64 (0 : Int)), D.v (Value.int IntKind.i64 (0 : Int)), D.v yy0, D.v yy0, D.v yy0, D.v yy0, D.v yy0]), Slot.live (Row.box 68 [D.v (Value.int IntKind.i64 g.h), D.v (Value.int IntKind.i64 g.w), D.own 3 0 (0 + g.B.length) none, D.own 4 0 (0 + g.R.length) none, D.own 5 0 (0 + g.L.length) none, D.own 6 0 0 none, D.own 7 0 (0 + (Mi M).length) none]), Slot.live (Row.data 4 Ty.bool (List.take 0 (List.drop 0 []) ++ g.B)), Slot.live (Row.data 4 Ty.bool (List.take 0 (List.drop 0 []) ++ g.R)), Slot.live (Row.data 4 Ty.bool (List.take 0 (List.drop 0 []) ++ g.L)), Slot.live (Row.data 46 (Ty.int IntKind.i64).sl []), Slot.live (Row.data 80 (Ty.int IntKind.u64) (List.take 0 (List.drop 0 []) ++ Mi M))])) hmG Try.func58 (by kernel_rfl) (by kernel_rfl) (fun G R => by kernel_rfl) ?_
  try dsimp only
  try dsimp only
  obtain ⟨f1, f2, f3⟩ := hg
  have hx := e58 g W M hW hw W.length 0 [] (by omega) (by omega) rfl
  simp only [take_len, List.drop_zero, List.take_length, Mi_getD, Mi_len, Nt_Mi, Int.toNat_natCast, Mi_set, Nat.zero_add, Nat.sub_zero, List.length_set, take_one, takeSn, List.take_zero, List.nil_append, List.length_append, List.length_cons, List.length_nil]
  simp (disch := omega) only [wrG, sameK_iff, true_and, and_true, decide_eq_true_eq, decide_eq_false_iff_not, ne_eq, not_false_eq_true, Bool.false_eq_true, Bool.true_eq_false, false_implies, true_implies, Ty.dflt, reduceCtorEq, beq_iff_eq, bne_iff_ne, beq_eq_false_iff_ne, bne_eq_false_iff_eq, Bool.not_eq_true, Bool.not_eq_eq_eq_not, Bool.not_true, Bool.not_false, gt_iff_lt, ge_iff_le, Int.not_lt, Int.not_le]
  repeat' (first | with_reducible refine And.intro ?_ ?_ | intro _)
  all_goals first | rfl | omega | assumption | trivial | exact roomW (by omega) | exact roomI (by omega) | exact roomU (by omega) | exact roomB (by omega) | (exfalso; simp_all; done) | (exfalso; omega) | skip
def vq40 (g : Gr) (W : List (List Int)) (M : List Nat) (g2 : Gr) (W2 : List (List Int)) (M2 : List Nat) (i : Int) (G : Nat → St → Prop) (R : D × List (Option Row) × List Row → Prop) : Prop := let yy0 := (Ty.int IntKind.i64); let yy1 := (W.getD i.toNat yy0.sl.dflt = W2.getD i.toNat yy0.sl.dflt); (decide (i < (↑W.length : Int)) = true → (0 : Int) ≤ i ∧ i < (↑W.length : Int) ∧ (0 : Int) ≤ i ∧ i < (↑W2.length : Int) ∧ Con Try.prog 41 [] [D.sl false false yy0 (W.getD i.toNat yy0.sl.dflt), D.sl false false yy0 (W2.getD i.toNat yy0.sl.dflt)] (D.v (Value.bool (decide yy1))) [] [] ∧ W.getD i.toNat yy0.sl.dflt = W.getD i.toNat yy0.sl.dflt ∧ W2.getD i.toNat yy0.sl.dflt = W2.getD i.toNat yy0.sl.dflt ∧ ((!decide yy1) = true → R (D.v (Value.bool false), [], [])) ∧ ((!decide yy1) = false → SameK (KK n64 0) (KK n64 0) ∧ G 0 (stOf 48 [2, 3, 5] [D.ptr 0 0 0, D.ptr 1 0 0, D.v (Value.int IntKind.i64 (IntKind.i64.wrap (i + (1 : Int))))] [Slot.live (Row.box 68 [D.v (Value.int IntKind.i64 g.h), D.v (Value.int IntKind.i64 g.w), D.sl false false Ty.bool g.B, D.sl false false Ty.bool g.R, D.sl false false Ty.bool g.L, D.sl false false yy0.sl W, D.sl false false (Ty.int IntKind.u64) (Mi M)]), Slot.live (Row.box 68 [D.v (Value.int IntKind.i64 g2.h), D.v (Value.int IntKind.i64 g2.w), D.sl false false Ty.bool g2.B, D.sl false false Ty.bool g2.R, D.sl false false Ty.bool g2.L, D.sl false false yy0.sl W2, D.sl false false (Ty.int IntKind.u64) (Mi M2)])]))) ∧ (decide (i < (↑W.length : Int)) = false → R (D.v (Value.bool true), [], []))
theorem e64 (g : Gr) (W : List (List Int)) (M : List Nat) (g2 : Gr) (W2 : List (List Int)) (M2 : List Nat) (hl : W.length = W2.length) (hW : W.length ≤ 5864062014805) (hw : ∀ w ∈ W, w.length ≤ 17592186044416) (z : Nat) : ∀ (i : Int), 0 ≤ i → i + z = W.length → ∀ r, r = decide (W.drop i.toNat = W2.drop i.toNat) → GetsK Try.prog Try.f64.results.toList [none] (KK n64) 0 (.v (.bool r), [], []) 0 (stOf 48 [2,3,5] [.ptr 0 0 0, .ptr 1 0 0, .v (.int .i64 i)] [.live (.box 68 [.v (.int .i64 g.h), .v (.int .i64 g.w), .sl false false .bool g.B, .sl false false .bool g.R, .sl false false .bool g.L, slW W, slU M]), .live (.box 68 [.v (.int .i64 g2.h), .v (.int .i64 g2.w), .sl false false .bool g2.B, .sl false false .bool g2.R, .sl false false .bool g2.L, slW W2, slU M2])]) := by
  induction z with
  | zero =>
    intro i i0 hi r hr
    rw [List.drop_eq_nil_of_le (by omega), List.drop_eq_nil_of_le (by omega)] at hr
    have hr : r = true := by rw [hr]; rfl
    rw [hr]
    refine gets_vc spNb (fun _ => [2,3,5]) (fun _ => []) 400 (.fork (.fork .stop (.hd 0)) .stop) (V := vq40 g W M g2 W2 M2 i) hmG (fun G R => by kernel_rfl) ?_
    unfold vq40
    try dsimp only
    simp (disch := omega) only [wrG, sameK_iff, true_and, and_true, decide_eq_true_eq, decide_eq_false_iff_not, ne_eq, not_false_eq_true, Bool.false_eq_true, Bool.true_eq_false, false_implies, true_implies, Ty.dflt, reduceCtorEq, beq_iff_eq, bne_iff_ne, beq_eq_false_iff_ne, bne_eq_false_iff_eq, Bool.not_eq_true, Bool.not_eq_eq_eq_not, Bool.not_true, Bool.not_false, gt_iff_lt, ge_iff_le, Int.not_lt, Int.not_le]
    repeat' (first | with_reducible refine And.intro ?_ ?_ | intro _)
    all_goals first | rfl | omega | assumption | trivial | (exfalso; simp_all; done) | (exfalso; omega) | skip
  | succ z ih =>
    intro i i0 hi r hr
    rw [drop_at (xs := W) (i := i) ([] : List Int) i0 (by omega), drop_at (xs := W2) (i := i) ([] : List Int) i0 (by omega)] at hr
    have hk1 : IntKind.i64.wrap (i + 1) = i + 1 := wrG (by omega) (by omega)
    have hx := ih (i + 1) (by omega) (by omega) _ rfl
    have c1 := d41 (W.getD i.toNat []) (W2.getD i.toNat []) (by have := hw _ (getD_in (d := []) (k := i.toNat) (l := W) (by omega)); omega)
    refine gets_vc spNb (fun _ => [2,3,5]) (fun _ => []) 400 (.fork (.fork .stop (.hd 0)) .stop) (V := vq40 g W M g2 W2 M2 i) hmG (fun G R => by kernel_rfl) ?_
    unfold vq40
    try dsimp only
    simp only [Ty.dflt, hk1]
    by_cases h : W.getD i.toNat [] = W2.getD i.toNat []
    · have hr : r = decide (W.drop (i + 1).toNat = W2.drop (i + 1).toNat) := by
        rw [hr]
        simp only [List.cons.injEq, h, true_and]
      rw [← hr] at hx
      simp only [h, decide_true] at c1
      simp only [h, decide_true]
      simp (disch := omega) only [wrG, sameK_iff, true_and, and_true, decide_eq_true_eq, decide_eq_false_iff_not, ne_eq, not_false_eq_true, Bool.false_eq_true, Bool.true_eq_false, false_implies, true_implies, Ty.dflt, reduceCtorEq, beq_iff_eq, bne_iff_ne, beq_eq_false_iff_ne, bne_eq_false_iff_eq, Bool.not_eq_true, Bool.not_eq_eq_eq_not, Bool.not_true, Bool.not_false, gt_iff_lt, ge_iff_le, Int.not_lt, Int.not_le]
      repeat' (first | with_reducible refine And.intro ?_ ?_ | intro _)
      all_goals first | rfl | omega | assumption | trivial | (exfalso; simp_all; done) | (exfalso; omega) | skip
    · have hr : r = false := by
        rw [hr]
        refine decide_eq_false (fun e => h ?_)
        rw [List.cons.injEq] at e
        exact e.1
      rw [hr]
      simp only [h, decide_false] at c1
      simp only [h, decide_false]
      simp (disch := omega) only [wrG, sameK_iff, true_and, and_true, decide_eq_true_eq, decide_eq_false_iff_not, ne_eq, not_false_eq_true, Bool.false_eq_true, Bool.true_eq_false, false_implies, true_implies, Ty.dflt, reduceCtorEq, beq_iff_eq, bne_iff_ne, beq_eq_false_iff_ne, bne_eq_false_iff_eq, Bool.not_eq_true, Bool.not_eq_eq_eq_not, Bool.not_true, Bool.not_false, gt_iff_lt, ge_iff_le, Int.not_lt, Int.not_le]
      repeat' (first | with_reducible refine And.intro ?_ ?_ | intro _)
      all_goals first | rfl | omega | assumption | trivial | (exfalso; simp_all; done) | (exfalso; omega) | skip
theorem d64 (g : Gr) (W : List (List Int)) (M : List Nat) (g2 : Gr) (W2 : List (List Int)) (M2 : List Nat) (hg : g.small) (hM : M.length ≤ 17592186044416) (hW : W.length ≤ 5864062014805) (hw : ∀ w ∈ W, w.length ≤ 17592186044416) : Con Try.prog 64 [] [.agg [.v (.int .i64 g.h), .v (.int .i64 g.w), .sl false false .bool g.B, .sl false false .bool g.R, .sl false false .bool g.L, slW W, slU M], .agg [.v (.int .i64 g2.h), .v (.int .i64 g2.w), .sl false false .bool g2.B, .sl false false .bool g2.R, .sl false false .bool g2.L, slW W2, slU M2]] (.v (.bool (decide (g = g2 ∧ M = M2 ∧ W = W2)))) [] [] := by
  refine con_vc (how := [none]) (c := n64) (K := (KK n64)) spNb (fun _ => [2,3,5]) (fun _ => []) 400 (.fork (.t (.t .stop)) (.fork (.t .stop) (.fork .stop (.hd 0)))) (V := fun G R => let yy0 := (Gr.mk g.h g.w g.B g.R g.L = Gr.mk g2.h g2.w g2.B g2.R g2.L); Con Try.prog 34 [] [D.agg [D.v (Value.int IntKind.i64 g.h), D.v (Value.int IntKind.i64 g.w), D.sl false false Ty.bool g.B, D.sl false false Ty.bool g.R, D.sl false false Ty.bool g.L], D.agg [D.v (Value.int IntKind.i64 g2.h), D.v (Value.int IntKind.i64 g2.w), D.sl false false Ty.bool g2.B, D.sl false false Ty.bool g2.R, D.sl false false Ty.bool g2.L]] (D.v (Value.bool (decide yy0))) [] [] ∧ Value.int IntKind.i64 g.h = Value.int IntKind.i64 g.h ∧ Value.int IntKind.i64 g.w = Value.int IntKind.i64 g.w ∧ g.B = g.B ∧ g.R = g.R ∧ g.L = g.L ∧ Value.int IntKind.i64 g2.h = Value.int IntKind.i64 g2.h ∧ Value.int IntKind.i64 g2.w = Value.int IntKind.i64 g2.w ∧ g2.B = g2.B ∧ g2.R = g2.R ∧ g2.L = g2.L ∧ ((!decide yy0) = true → true = true ∧ true = true ∧ R (D.v (Value.bool false), [], [])) ∧ ((!decide yy0) = false → Con Try.prog 102 [] [D.sl false false (Ty.int IntKind.u64) (Mi M), D.sl false false (Ty.int IntKind.u64) (Mi M2)] (D.v (Value.bool (decide (Mi M = Mi M2)))) [] [] ∧ Mi M = Mi M ∧ Mi M2 = Mi M2 ∧ ((!decide (Mi M = Mi M2)) = true → true = true ∧ R (D.v (Value.bool false), [], [])) ∧ ((!decide (Mi M = Mi M2)) = false → (((↑W.length : Int) != (↑W2.length : Int)) = true → R (D.v (Value.bool false), [], [])) ∧ (((↑W.length : Int) != (↑W2.length : Int)) = false → SameK (KK n64 0) (KK n64 0) ∧ G 0 (stOf 48 [2, 3, 5] [D.ptr 0 0 0, D.ptr 1 0 0, D.v (Value.int IntKind.i64 (0 : Int))] [Slot.live (Row.box 68 [D.v (Value.int IntKind.i64 g.h), D.v (Value.int IntKind.i64 g.w), D.sl false false Ty.bool g.B, D.sl false false Ty.bool g.R, D.sl false false Ty.bool g.L, D.sl false false (Ty.int IntKind.i64).sl W, D.sl false false (Ty.int IntKind.u64) (Mi M)]), Slot.live (Row.box 68 [D.v (Value.int IntKind.i64 g2.h), D.v (Value.int IntKind.i64 g2.w), D.sl false false Ty.bool g2.B, D.sl false false Ty.bool g2.R, D.sl false false Ty.bool g2.L, D.sl false false (Ty.int IntKind.i64).sl W2, D.sl false false (Ty.int IntKind.u64) (Mi M2)])]))))) hmG Try.func64 (by kernel_rfl) (by kernel_rfl) (fun G R => by kernel_rfl) ?_
  try dsimp only
  try dsimp only
  have c0 := d34 g g2 hg
  have c1 := d102 (Mi M) (Mi M2) (by rw [Mi_len]; omega)
  simp only [Nt_Mi]
  by_cases h1 : g = g2
  · subst h1
    simp only [eq_self, decide_true] at c0
    by_cases h2 : M = M2
    · subst h2
      simp only [eq_self, decide_true] at c1
      by_cases hl : W.length = W2.length
      · have hx := e64 g W M g W2 M hl hW hw W.length 0 (by omega) (by omega) _ rfl
        have e : decide (g = g ∧ M = M ∧ W = W2) = decide (W = W2) := by simp only [true_and]
        rw [e]
        simp only [show (0 : Int).toNat = 0 by rfl, List.drop_zero] at hx
        have hll : ((W.length : Int) != (W2.length : Int)) = false := by rw [hl]; simp
        simp only [eq_self, decide_true, hll, Bool.not_true]
        simp (disch := omega) only [wrG, sameK_iff, true_and, and_true, decide_eq_true_eq, decide_eq_false_iff_not, ne_eq, not_false_eq_true, Bool.false_eq_true, Bool.true_eq_false, false_implies, true_implies, Ty.dflt, reduceCtorEq, beq_iff_eq, bne_iff_ne, beq_eq_false_iff_ne, bne_eq_false_iff_eq, Bool.not_eq_true, Bool.not_eq_eq_eq_not, Bool.not_true, Bool.not_false, gt_iff_lt, ge_iff_le, Int.not_lt, Int.not_le]
        repeat' (first | with_reducible refine And.intro ?_ ?_ | intro _)
        all_goals first | rfl | omega | assumption | trivial | (exfalso; simp_all; done) | (exfalso; omega) | skip
      · have e : decide (g = g ∧ M = M ∧ W = W2) = false := decide_eq_false (fun q => hl (by rw [q.2.2]))
        have hll : ((W.length : Int) != (W2.length : Int)) = true := by rw [bne_iff_ne]; omega
        rw [e]
        simp only [eq_self, decide_true, hll, Bool.not_true]
        simp (disch := omega) only [wrG, sameK_iff, true_and, and_true, decide_eq_true_eq, decide_eq_false_iff_not, ne_eq, not_false_eq_true, Bool.false_eq_true, Bool.true_eq_false, false_implies, true_implies, Ty.dflt, reduceCtorEq, beq_iff_eq, bne_iff_ne, beq_eq_false_iff_ne, bne_eq_false_iff_eq, Bool.not_eq_true, Bool.not_eq_eq_eq_not, Bool.not_true, Bool.not_false, gt_iff_lt, ge_iff_le, Int.not_lt, Int.not_le]
        repeat' (first | with_reducible refine And.intro ?_ ?_ | intro _)
        all_goals first | rfl | omega | assumption | trivial | (exfalso; simp_all; done) | (exfalso; omega) | skip
    · have h2' : ¬ Mi M = Mi M2 := fun q => h2 (Mi_inj q)
      have e : decide (g = g ∧ M = M2 ∧ W = W2) = false := decide_eq_false (fun q => h2 q.2.1)
      simp only [h2', decide_false] at c1
      rw [e]
      simp only [eq_self, h2', decide_true, decide_false, Bool.not_true, Bool.not_false]
      simp (disch := omega) only [wrG, sameK_iff, true_and, and_true, decide_eq_true_eq, decide_eq_false_iff_not, ne_eq, not_false_eq_true, Bool.false_eq_true, Bool.true_eq_false, false_implies, true_implies, Ty.dflt, reduceCtorEq, beq_iff_eq, bne_iff_ne, beq_eq_false_iff_ne, bne_eq_false_iff_eq, Bool.not_eq_true, Bool.not_eq_eq_eq_not, Bool.not_true, Bool.not_false, gt_iff_lt, ge_iff_le, Int.not_lt, Int.not_le]
      repeat' (first | with_reducible refine And.intro ?_ ?_ | intro _)
      all_goals first | rfl | omega | assumption | trivial | (exfalso; simp_all; done) | (exfalso; omega) | skip
  · have e : decide (g = g2 ∧ M = M2 ∧ W = W2) = false := decide_eq_false (fun q => h1 q.1)
    simp only [h1, decide_false] at c0
    rw [e]
    simp only [h1, decide_false, Bool.not_false]
    simp (disch := omega) only [wrG, sameK_iff, true_and, and_true, decide_eq_true_eq, decide_eq_false_iff_not, ne_eq, not_false_eq_true, Bool.false_eq_true, Bool.true_eq_false, false_implies, true_implies, Ty.dflt, reduceCtorEq, beq_iff_eq, bne_iff_ne, beq_eq_false_iff_ne, bne_eq_false_iff_eq, Bool.not_eq_true, Bool.not_eq_eq_eq_not, Bool.not_true, Bool.not_false, gt_iff_lt, ge_iff_le, Int.not_lt, Int.not_le]
    repeat' (first | with_reducible refine And.intro ?_ ?_ | intro _)
    all_goals first | rfl | omega | assumption | trivial | (exfalso; simp_all; done) | (exfalso; omega) | skip
theorem d96 (W : List (List Int))  : Con Try.prog 96 [] [slW W] (.agg [.v (.int .i64 2), .v (.int .i64 2), .own 0 0 4 none, .own 1 0 4 none, .own 2 0 4 none, slW W, .own 3 0 4 none]) [] [.data 4 .bool [false, false, false, false], .data 4 .bool [false, false, false, false], .data 4 .bool [false, false, false, false], .data 80 (.int .u64) [7, 7, 7, 7]] := by
  refine con_vc (how := [none]) (c := n96) (K := (KK n96)) spNb (fun _ => []) (fun k => [⟨20002, 4, .bool⟩, ⟨30002, 4, .bool⟩, ⟨40002, 4, .bool⟩, ⟨60002, 80, .int .u64⟩]) 400 .stop (V := fun G R => (0 : Int) ≤ (4 : Int) ∧ (4 : Int) ≤ (4 : Int) ∧ (4 : Int) ≤ (9223372036854775807 : Int) ∧ 4 ≤ 281474976710656 ∧ (0 : Int) ≤ (4 : Int) ∧ (4 : Int) ≤ (4 : Int) ∧ (4 : Int) ≤ (9223372036854775807 : Int) ∧ 4 ≤ 281474976710656 ∧ (0 : Int) ≤ (4 : Int) ∧ (4 : Int) ≤ (4 : Int) ∧ (4 : Int) ≤ (9223372036854775807 : Int) ∧ 4 ≤ 281474976710656 ∧ R (D.agg [D.v (Value.int IntKind.i64 (2 : Int)), D.v (Value.int IntKind.i64 (2 : Int)), D.own 0 0 4 none, D.own 1 0 4 none, D.own 2 0 4 none, D.sl false false (Ty.int IntKind.i64).sl W, D.own 3 0 4 none], [], [Row.data 4 Ty.bool (List.replicate 4 false), Row.data 4 Ty.bool (List.replicate 4 false), Row.data 4 Ty.bool (List.replicate 4 false), Row.data 80 (Ty.int IntKind.u64) [(7 : Int), (7 : Int), (7 : Int), (7 : Int)]])) hmG Try.func96 (by kernel_rfl) (by kernel_rfl) (fun G R => by kernel_rfl) ?_
  try dsimp only
  repeat' (first | with_reducible refine And.intro ?_ ?_ | intro _)
  all_goals first | rfl | omega | decide | trivial | skip
end Go.Proofs.YtnakmganodkliaaAm
namespace Go.Proofs.YtnakmganodkliaaAm
open Go
theorem relD_sl {X : Ctx} {ρ : Nat → Option Loc} {H : Heap} {t : Ty} {xs : List t.El} {A : Option Addr} {c : Nat} {us : List Value} {S : Nat → Prop} {w : World} (k1 : xs.length ≤ c) (k2 : A = none → c = 0) (k4 : Reps (RelE S w t) xs us) (k5 : At S w A us) : RelD ⟨ρ, H, S, w⟩ (.sl false false t xs) (.slice A xs.length c) := by
  simp only [RelD]
  exact ⟨A, c, us, rfl, k1, k2, by simp, by simp, k4, k5⟩
theorem con_frz2 {P : Program} {f : FuncId} {args : List D} {a b : Nat} {c1 c2 : Option Nat} {t1 t2 : Ty} {xs : List t1.El} {ys : List t2.El} {o e : Value} {r1 r2 : Row}
    (hr1 : rowData (hget (List.map slotOf [] ++ List.map Slot.live [r1, r2])) 0 0 a t1 = some xs) (hr2 : rowData (hget (List.map slotOf [] ++ List.map Slot.live [r1, r2])) 1 0 b t2 = some ys)
    (h : Con P f [] args (.tup [.agg [.own 0 0 a c1, .own 1 0 b c2, .v o], .v e]) [] [r1, r2]) : Con P f [] args (.tup [.agg [.sl false false t1 xs, .sl false false t2 ys, .v o], .v e]) [] [] := by
  refine ⟨h.fn, fun w ρ S vs M hargs => (h.run w ρ S vs M hargs).mono ?_⟩
  rintro ex w' ⟨v, ρ', S', h1, h2, h3⟩
  have g0 : hget (List.map slotOf [] ++ List.map Slot.live [r1, r2]) 0 = some r1 := rfl
  have g1 : hget (List.map slotOf [] ++ List.map Slot.live [r1, r2]) 1 = some r2 := rfl
  let S2 : Nat → Prop := fun k => (S' k ∨ ∃ l, ρ' 0 = some l ∧ k ∈ l.bs) ∨ ∃ l, ρ' 1 = some l ∧ k ∈ l.bs
  rw [RelD] at h3
  obtain ⟨us, ev, h3⟩ := h3
  rw [RelDs] at h3
  obtain ⟨u, us1, e1, h4, h3⟩ := h3
  rw [RelDs] at h3
  obtain ⟨u2, us2, e2, h5, h3⟩ := h3
  rw [RelDs] at h3
  rw [RelD] at h4
  obtain ⟨ws, ew, h4⟩ := h4
  rw [RelDs] at h4
  obtain ⟨w1, ws1, q1, p1, h4⟩ := h4
  rw [RelDs] at h4
  obtain ⟨w2, ws2, q2, p2, h4⟩ := h4
  rw [RelDs] at h4
  obtain ⟨w3, ws3, q3, p3, h4⟩ := h4
  rw [RelDs] at h4
  obtain ⟨_, A, c, vs1, e3, k1, k2, k3, k4, k5⟩ := own_seq (S' := S2) h2 (fun _ h => .inl (.inl h)) (fun _ _ h => h) hr1 (fun l hl' k hk => .inl (.inr ⟨l, hl', hk⟩)) p1
  obtain ⟨_, A', c', vs2, e4, m1, m2, m3, m4, m5⟩ := own_seq (S' := S2) h2 (fun _ h => .inl (.inl h)) (fun _ _ h => h) hr2 (fun l hl' k hk => .inr ⟨l, hl', hk⟩) p2
  obtain ⟨M2, L2⟩ := mem_kill h2 g0 (fun k => S' k ∨ ∃ l, ρ' 0 = some l ∧ k ∈ l.bs) (fun k hk => .inl hk) (fun k hk => hk)
  have g1' : hget (Ctx.put ⟨ρ', List.map slotOf [] ++ List.map Slot.live [r1, r2], S', w'⟩ 0 .dead (ρ' 0) (fun k => S' k ∨ ∃ l, ρ' 0 = some l ∧ k ∈ l.bs) w').H 1 = some r2 := rfl
  obtain ⟨M3, _⟩ := mem_kill M2 g1' S2 (fun k hk => .inl hk) (fun k hk => by
    rcases hk with hk | ⟨l, hl, hk⟩
    · exact .inl hk
    · exact .inr ⟨l, by simpa [Ctx.put] using hl, hk⟩)
  have hp := mem_pack M3 (n := 0) rfl (ids := []) (ds := []) rfl
  refine ⟨v, _, _, h1, hp, ?_⟩
  rw [RelD]
  refine ⟨us, ev, ?_⟩
  rw [RelDs]
  refine ⟨u, us1, e1, ?_, ?_⟩
  · rw [RelD]
    refine ⟨ws, ew, ?_⟩
    rw [RelDs]
    refine ⟨w1, ws1, q1, ?_, ?_⟩
    · rw [e3]
      exact relD_sl (X := ⟨ρ', [], S', w'⟩) k1 k2 k3 k4
    · rw [RelDs]
      refine ⟨w2, ws2, q2, ?_, ?_⟩
      · rw [e4]
        exact relD_sl (X := ⟨ρ', [], S', w'⟩) m1 m2 m3 m4
      · rw [RelDs]
        refine ⟨w3, ws3, q3, ?_, by rw [RelDs]; exact h4⟩
        rw [RelD] at p3 ⊢
        exact p3
  · rw [RelDs]
    refine ⟨u2, us2, e2, ?_, by rw [RelDs]; exact h3⟩
    rw [RelD] at h5 ⊢
    exact h5
end Go.Proofs.YtnakmganodkliaaAm
set_option maxRecDepth 100000
namespace Go.Proofs.YtnakmganodkliaaAm
open Go
theorem d59s (g : Gr) (W : List (List Int)) (M : List Nat) (hM : Smalls M) : Con Try.prog 59 [] [(Pr.mk g W M).d] (.tup [.agg [slU (narM ⟨g, W, M⟩), slW (narW ⟨g, W, M⟩), .v (.bool (narO ⟨g, W, M⟩))], .v (.int .i64 (checkP ⟨g, W, M⟩))]) [] [] := by
  refine con_frz2 (a := (narM ⟨g, W, M⟩).length) (b := (narW ⟨g, W, M⟩).length) ?_ ?_ (d59 g W M hM)
  · unfold rowData
    simp only [List.map, List.nil_append, show hget [Slot.live (Row.data 80 (.int .u64) (Mi (narM ⟨g, W, M⟩))), Slot.live (Row.nest kW (narW ⟨g, W, M⟩) none)] 0 = some (Row.data 80 (.int .u64) (Mi (narM ⟨g, W, M⟩))) from rfl, dif_pos, List.drop_zero, Mi_take]
  · unfold rowData
    simp only [List.map, List.nil_append, show hget [Slot.live (Row.data 80 (.int .u64) (Mi (narM ⟨g, W, M⟩))), Slot.live (Row.nest kW (narW ⟨g, W, M⟩) none)] 1 = some (Row.nest kW (narW ⟨g, W, M⟩) none) from rfl, dif_pos, List.drop_zero, List.take_length]
theorem d60s (g : Gr) (W : List (List Int)) (M : List Nat) (hM : Smalls M) : Con Try.prog 60 [] [(Pr.mk g W M).d] (.tup [.agg [slU (narM ⟨g, W, M⟩), slW (narW ⟨g, W, M⟩), .v (.bool (narO ⟨g, W, M⟩))], .v (.int .i64 (checkP ⟨g, W, M⟩))]) [] [] := by
  refine con_frz2 (a := (narM ⟨g, W, M⟩).length) (b := (narW ⟨g, W, M⟩).length) ?_ ?_ (d60 g W M hM)
  · unfold rowData
    simp only [List.map, List.nil_append, show hget [Slot.live (Row.data 80 (.int .u64) (Mi (narM ⟨g, W, M⟩))), Slot.live (Row.nest kW (narW ⟨g, W, M⟩) none)] 0 = some (Row.data 80 (.int .u64) (Mi (narM ⟨g, W, M⟩))) from rfl, dif_pos, List.drop_zero, Mi_take]
  · unfold rowData
    simp only [List.map, List.nil_append, show hget [Slot.live (Row.data 80 (.int .u64) (Mi (narM ⟨g, W, M⟩))), Slot.live (Row.nest kW (narW ⟨g, W, M⟩) none)] 1 = some (Row.nest kW (narW ⟨g, W, M⟩) none) from rfl, dif_pos, List.drop_zero, List.take_length]
def spNc : Sp := fun f args rd => match f, args with
  | 59, [.agg [.v (.int _ h), .v (.int _ w), b, r, l, ws, ms]] => withP rd h w b r l ws ms fun p ls => some { f := 59, args := [p.d], val := .tup [.agg [slU (narM p), slW (narW p), .v (.bool (narO p))], .v (.int .i64 (checkP p))], frz := ls }
  | 60, [.agg [.v (.int _ h), .v (.int _ w), b, r, l, ws, ms]] => withP rd h w b r l ws ms fun p ls => some { f := 60, args := [p.d], val := .tup [.agg [slU (narM p), slW (narW p), .v (.bool (narO p))], .v (.int .i64 (checkP p))], frz := ls }
  | f, args => spNb f args rd
theorem seatC_get (M : List Nat) : ∀ (cs : List Int) (m : List Nat) (j : Nat), j < m.length → (seatCells M cs m).getD j 0 = if cs.any (fun c => c.toNat == j) then M.getD j 0 else m.getD j 0
  | [], m, j, _ => by simp [seatCells]
  | c :: cs, m, j, hj => by
    simp only [seatCells, List.any_cons]
    rw [seatC_get M cs _ j (by simpa using hj)]
    by_cases h : c.toNat = j
    · have hs : (m.set c.toNat (M.getD c.toNat 0)).getD j 0 = M.getD j 0 := by rw [getD_set_nat, if_pos ⟨h, by omega⟩, h]
      simp only [hs, beq_iff_eq.2 h, Bool.true_or, if_true, ite_self]
    · have hs : (m.set c.toNat (M.getD c.toNat 0)).getD j 0 = m.getD j 0 := by rw [getD_set_nat, if_neg (fun e => h e.1)]
      simp only [hs, beq_eq_false_iff_ne.2 h, Bool.false_or]
theorem seatS_get (M : List Nat) : ∀ (ss : List Slt) (m : List Nat) (j : Nat), j < m.length → (seatSlots M ss m).getD j 0 = if ss.any (fun s => s.2.2.any (fun c => c.toNat == j)) then M.getD j 0 else m.getD j 0
  | [], m, j, _ => by simp [seatSlots]
  | s :: ss, m, j, hj => by
    simp only [seatSlots, List.any_cons]
    rw [seatS_get M ss _ j (by rw [seatCells_len]; exact hj), seatC_get M _ m j hj]
    rcases Bool.eq_false_or_eq_true (s.2.2.any (fun c => c.toNat == j)) with h1 | h1 <;> rcases Bool.eq_false_or_eq_true (ss.any (fun s => s.2.2.any (fun c => c.toNat == j))) with h2 | h2 <;> simp only [h1, h2, Bool.or_true, Bool.true_or, Bool.or_false, Bool.false_eq_true, if_true, if_false]
def seatedB (S : List Slt) (j : Nat) : Bool := S.any fun s => s.2.2.any fun c => c.toNat == j
theorem m0_get {p : Pr} {j : Nat} (hj : j < p.M.length) : (m0F p).getD j 0 = if seatedB (slotsF p.g) j then p.M.getD j 0 else 0 := by
  unfold m0F seatedB
  rw [seatS_get _ _ _ _ (by simpa using hj)]
  have e : (List.replicate p.M.length 0).getD j 0 = 0 := by
    rw [List.getD_eq_getElem?_getD, List.getElem?_replicate]
    split <;> rfl
  rw [e]
end Go.Proofs.YtnakmganodkliaaAm
set_option maxRecDepth 100000
namespace Go.Proofs.YtnakmganodkliaaAm
open Go
theorem nar0 : checkP p0 = 0 ∧ narM p0 = [3, 3, 3, 7] ∧ narW p0 = [[0, 1], [0, 1], [0, 1, 2], [0, 1, 2]] ∧ narO p0 = true := by
  refine ⟨?_, ?_, ?_, ?_⟩ <;> kernel_rfl
theorem d57   : Con Try.prog 57 [] [] (.v (.bool true)) [] [] := by
  refine con_vc (how := [none]) (c := n57) (K := (KK n57)) (flag [2000007] spNc) (fun _ => []) (fun _ => []) 400 (.fork (.fork (.fork (.fork (.fork (.fork .stop .stop) (.f .stop)) (.f (.f .stop))) (.f (.f (.f .stop)))) (.f (.f (.f (.f .stop))))) (.f (.f (.f (.f (.f .stop)))))) (V := fun G R => let yy0 := (Pr.mk (Gr.mk (2 : Int) (2 : Int) [false, false, false, false] [false, false, false, false] [false, false, false, false]) (List.take 3 (List.drop 0 [List.take 2 (List.drop 0 [(0 : Int), (1 : Int)]), List.take 2 (List.drop 0 [(1 : Int), (0 : Int)]), List.take 2 (List.drop 0 [(0 : Int), (2 : Int)])])) (Nt (List.take 4 (List.drop 0 [(7 : (Ty.int IntKind.u64).El), (7 : (Ty.int IntKind.u64).El), (7 : (Ty.int IntKind.u64).El), (7 : (Ty.int IntKind.u64).El)])))); let yy1 := (List.drop 0 [List.take 2 (List.drop 0 [(0 : Int), (1 : Int)]), List.take 2 (List.drop 0 [(1 : Int), (0 : Int)]), List.take 2 (List.drop 0 [(0 : Int), (2 : Int)])]); let yy2 := (Ty.int IntKind.u64); let yy3 := (List.drop 0 [false, false, false, false]); let yy4 := (Value.bool false); Con Try.prog 96 [] [D.sl false false (Ty.int IntKind.i64).sl (List.take 3 yy1)] (D.agg [D.v (Value.int IntKind.i64 (2 : Int)), D.v (Value.int IntKind.i64 (2 : Int)), D.own 0 0 4 none, D.own 1 0 4 none, D.own 2 0 4 none, D.sl false false (Ty.int IntKind.i64).sl (List.take 3 yy1), D.own 3 0 4 none]) [] [Row.data 4 Ty.bool [false, false, false, false], Row.data 4 Ty.bool [false, false, false, false], Row.data 4 Ty.bool [false, false, false, false], Row.data 80 yy2 [(7 : yy2.El), (7 : yy2.El), (7 : yy2.El), (7 : yy2.El)]] ∧ List.take 3 yy1 = List.take 3 yy1 ∧ Con Try.prog 59 [] [D.agg [D.v (Value.int IntKind.i64 yy0.g.h), D.v (Value.int IntKind.i64 yy0.g.w), D.sl false false Ty.bool yy0.g.B, D.sl false false Ty.bool yy0.g.R, D.sl false false Ty.bool yy0.g.L, D.sl false false (Ty.int IntKind.i64).sl yy0.W, D.sl false false yy2 (Mi yy0.M)]] (D.tup [D.agg [D.sl false false yy2 (Mi (narM yy0)), D.sl false false (Ty.int IntKind.i64).sl (narW yy0), D.v (Value.bool (narO yy0))], D.v (Value.int IntKind.i64 (checkP yy0))]) [] [] ∧ Value.int IntKind.i64 (2 : Int) = Value.int IntKind.i64 yy0.g.h ∧ Value.int IntKind.i64 (2 : Int) = Value.int IntKind.i64 yy0.g.w ∧ List.take 4 yy3 = yy0.g.B ∧ List.take 4 yy3 = yy0.g.R ∧ List.take 4 yy3 = yy0.g.L ∧ List.take 3 yy1 = yy0.W ∧ List.take 4 (List.drop 0 [(7 : yy2.El), (7 : yy2.El), (7 : yy2.El), (7 : yy2.El)]) = Mi yy0.M ∧ ((checkP yy0 == (0 : Int)) = true → (narO yy0 = true → (((↑4 : Int) == (4 : Int)) = true → (0 : Int) ≤ (1 : Int) ∧ (1 : Int) < (↑4 : Int) ∧ (((Mi (narM yy0)).getD 1 yy2.dflt == (3 : Int)) = true → (0 : Int) ≤ (3 : Int) ∧ (3 : Int) < (↑4 : Int) ∧ (((Mi (narM yy0)).getD 3 yy2.dflt == (7 : Int)) = true → (((↑4 : Int) == (4 : Int)) = true → (0 : Int) ≤ (0 : Int) ∧ (0 : Int) < (↑4 : Int) ∧ R (D.v (Value.bool ((↑2 : Int) == (2 : Int))), [], [])) ∧ (((↑4 : Int) == (4 : Int)) = false → R (D.v yy4, [], []))) ∧ (((Mi (narM yy0)).getD 3 yy2.dflt == (7 : Int)) = false → false = false ∧ R (D.v yy4, [], []))) ∧ (((Mi (narM yy0)).getD 1 yy2.dflt == (3 : Int)) = false → false = false ∧ false = false ∧ R (D.v yy4, [], []))) ∧ (((↑4 : Int) == (4 : Int)) = false → false = false ∧ false = false ∧ false = false ∧ R (D.v yy4, [], []))) ∧ (narO yy0 = false → false = false ∧ false = false ∧ false = false ∧ false = false ∧ R (D.v yy4, [], []))) ∧ ((checkP yy0 == (0 : Int)) = false → false = false ∧ false = false ∧ false = false ∧ false = false ∧ false = false ∧ R (D.v yy4, [], []))) hmG Try.func57 (by kernel_rfl) (by kernel_rfl) (fun G R => by kernel_rfl) ?_
  try dsimp only
  try dsimp only
  obtain ⟨h1, h2, h3, h4⟩ := nar0
  have c1 := d96 [[0, 1], [1, 0], [0, 2]]
  have c2 := d59s p0.g p0.W p0.M (by intro x hx; have hx : x ∈ [7, 7, 7, 7] := hx; simp only [List.mem_cons, List.not_mem_nil, or_false, or_self] at hx; rw [hx]; decide)
  unfold p0 at h1 h2 h3 h4 c2
  simp only [h1, h2, h3, h4] at c2
  simp only [List.drop_zero, List.take_succ_cons, List.take_zero, Nt, List.map, show ((7 : Int)).toNat = 7 from rfl, h1, h2, h3, h4]
  repeat' (first | with_reducible refine And.intro ?_ ?_ | intro _)
  all_goals first | rfl | omega | decide | trivial | exact c1 | exact c2 | skip
end Go.Proofs.YtnakmganodkliaaAm
namespace Go.Proofs.YtnakmganodkliaaAm
open Go
theorem narM_eq {p : Pr} (h : checkP p = 0) : narM p = gfpF p.W (slotsF p.g) (m0F p) := if_pos h
theorem narW_eq {p : Pr} (h : checkP p = 0) : narW p = wordsF p.W (slotsF p.g) (narM p) := if_pos h
theorem narW_len {p : Pr} (h : checkP p = 0) : (narW p).length = (slotsF p.g).length := by rw [narW_eq h]; simp [wordsF]
theorem narW_at {p : Pr} (h : checkP p = 0) {j : Nat} (hj : j < (slotsF p.g).length) : (narW p).getD j [] = idxF (fitL (narM p) (sAtN (slotsF p.g) j).2.2) 0 p.W := by
  rw [narW_eq h]
  unfold wordsF
  simp [List.getD_eq_getElem?_getD, hj, sAtN]
theorem nar_stable {p : Pr} (h : checkP p = 0) : Stable p.W (slotsF p.g) (narM p) := by rw [narM_eq h]; exact gfp_stable _ _ _
def letM (ls : List Int) : List Nat := ls.map bitN
theorem letM_bit {ls : List Int} {c i : Nat} (h : bitAt (letM ls) c i) : ls.getD c (-1) = (i : Int) ∧ i < 64 ∧ c < ls.length := by
  have hc : c < ls.length := by have := bit_lt h; simpa [letM] using this
  unfold bitAt letM at h
  have e : (ls.map bitN).getD c 0 = bitN ls[c] := by rw [List.getD_eq_getElem?_getD, List.getElem?_map, List.getElem?_eq_getElem hc]; rfl
  have e2 : ls.getD c (-1) = ls[c] := by rw [List.getD_eq_getElem?_getD, List.getElem?_eq_getElem hc]; rfl
  rw [e] at h
  rw [e2]
  unfold bitN at h
  split at h
  · simp at h
  · rename_i hb
    rw [Nat.testBit_two_pow, decide_eq_true_eq] at h
    omega
theorem letM_has {ls : List Int} {c : Nat} {x : Int} (h : ls.getD c (-1) = x) (h0 : 0 ≤ x) (h1 : x < 64) : bitAt (letM ls) c x.toNat := by
  have hc : c < ls.length := by
    apply Nat.lt_of_not_le
    intro hle
    rw [List.getD_eq_getElem?_getD, List.getElem?_eq_none hle] at h
    simp at h
    omega
  have e2 : ls.getD c (-1) = ls[c] := by rw [List.getD_eq_getElem?_getD, List.getElem?_eq_getElem hc]; rfl
  rw [e2] at h
  unfold bitAt letM
  have e : (ls.map bitN).getD c 0 = bitN ls[c] := by rw [List.getD_eq_getElem?_getD, List.getElem?_map, List.getElem?_eq_getElem hc]; rfl
  rw [e, h]
  unfold bitN
  rw [if_neg (by omega), Nat.testBit_two_pow, decide_eq_true_eq]
structure Picked (p : Pr) (pick : List Int) (n : Nat) (ls : List Int) : Prop where
  len : ls.length = p.M.length
  low : ∀ c, 0 ≤ ls.getD c (-1) → hasN (p.M.getD c 0) (ls.getD c (-1)) = true ∧ seatedB (slotsF p.g) c = true
  word : ∀ s, s < n → 0 ≤ pick.getD s 0 ∧ pick.getD s 0 < p.W.length ∧ (wordAt p.W (pick.getD s 0)).length = (sAtN (slotsF p.g) s).2.2.length
  here : ∀ s, s < n → ∀ j x, (sAtN (slotsF p.g) s).2.2[j]? = some x → ls.getD x.toNat (-1) = (wordAt p.W (pick.getD s 0)).getD j 0 ∧ 0 ≤ ls.getD x.toNat (-1)
theorem has_lt {m : Nat} {x : Int} (h : hasN m x = true) : 0 ≤ x ∧ x < 64 := by
  unfold hasN at h
  simp only [Bool.and_eq_true, decide_eq_true_eq] at h
  exact ⟨h.1, h.2.1⟩
theorem Picked.fit {p : Pr} {pick : List Int} {n : Nat} {ls : List Int} (q : Picked p pick n ls) {s : Nat} (hs : s < n) : fitL (letM ls) (sAtN (slotsF p.g) s).2.2 (wordAt p.W (pick.getD s 0)) = true := by
  rw [fit_iff]
  refine ⟨(q.word s hs).2.2, fun j x hx => ?_⟩
  obtain ⟨e, h0⟩ := q.here s hs j x hx
  have h1 := has_lt (q.low _ h0).1
  rw [has_bit, ← e]
  exact ⟨h1.1, h1.2, letM_has rfl h1.1 h1.2⟩
theorem word_in {W : List (List Int)} {i : Int} (h0 : 0 ≤ i) (h1 : i < W.length) : wordAt W i ∈ W := getD_in (by omega)
theorem Picked.stable {p : Pr} {pick : List Int} {n : Nat} {ls : List Int} (q : Picked p pick n ls) (hn : n = (slotsF p.g).length) : Stable p.W (slotsF p.g) (letM ls) := by
  intro t ht j x hx i hi
  obtain ⟨s, hs, e⟩ := List.getElem_of_mem ht
  have et : sAtN (slotsF p.g) s = t := by
    unfold sAtN
    rw [List.getD_eq_getElem?_getD, List.getElem?_eq_getElem hs]
    exact e
  rw [← et] at hx ⊢
  have hs' : s < n := by omega
  obtain ⟨e1, h0⟩ := q.here s hs' j x hx
  obtain ⟨e2, hi64, _⟩ := letM_bit hi
  have hw := q.word s hs'
  exact (there_bits _ _ _ _).2 ⟨hi64, _, word_in hw.1 hw.2.1, q.fit hs', by rw [← e1, e2]⟩
theorem Picked.below {p : Pr} {pick : List Int} {n : Nat} {ls : List Int} (q : Picked p pick n ls) : Leq (letM ls) (m0F p) := by
  intro c i hi
  obtain ⟨e, hi64, hc⟩ := letM_bit hi
  have h1 := q.low c (by omega)
  have hcM : c < p.M.length := by have := q.len; omega
  unfold bitAt
  rw [m0_get hcM, if_pos h1.2]
  have h2 := (has_bit.1 h1.1).2.2
  rw [e] at h2
  exact h2
theorem Picked.leq {p : Pr} {pick : List Int} {n : Nat} {ls : List Int} (hc : checkP p = 0) (q : Picked p pick n ls) (hn : n = (slotsF p.g).length) : Leq (letM ls) (narM p) := by
  rw [narM_eq hc]
  exact gfp_most _ _ _ (q.stable hn) q.below
end Go.Proofs.YtnakmganodkliaaAm
set_option maxRecDepth 100000
namespace Go.Proofs.YtnakmganodkliaaAm
open Go
theorem at_some {α : Type} {l : List α} {k : Nat} (h : k < l.length) {d : α} : l[k]? = some (l.getD k d) := by
  rw [List.getD_eq_getElem?_getD, List.getElem?_eq_getElem h]
  rfl
structure Slot18 (W : List (List Int)) (M m : List Nat) (C l : List Int) : Prop where
  cells : ∀ c ∈ C, 0 ≤ c ∧ c < m.length ∧ c < M.length
  words : ∀ x ∈ l, 0 ≤ x ∧ x < W.length ∧ (W.getD x.toNat []).length = C.length ∧ ∀ k : Nat, k < C.length → hasN (m.getD (C.getD k 0).toNat 0) ((W.getD x.toNat []).getD k 0) = true
  there : ∀ k : Nat, k < C.length → m.getD (C.getD k 0).toNat 0 &&& ofN (l.map fun x => (W.getD x.toNat []).getD k 0) = m.getD (C.getD k 0).toNat 0
  few : l.length ≤ 1000
  short : C.length ≤ 300
theorem slot18 {p : Pr} (hc : checkP p = 0) (hM : Smalls p.M) {j : Nat} (hj : j < (slotsF p.g).length) : Slot18 p.W p.M (narM p) (sAtN (slotsF p.g) j).2.2 ((narW p).getD j []) := by
  have F := fine_of (g := p.g) (W := p.W) (M := p.M) hc hM
  have hs : sAtN (slotsF p.g) j ∈ slotsF p.g := getD_in hj
  have hcl := F.cells _ hs
  have hnl := narM_len p hc
  have hW1 : (p.W.length : Int) ≤ 1000 := (checkP_zero hc).2.1
  rw [narW_at hc hj]
  refine ⟨fun c h => ?_, fun x hx => ?_, fun k hk => ?_, ?_, hcl.1⟩
  · have := hcl.2 c h
    omega
  · obtain ⟨h1, h2, h3, h4⟩ := idx_word hx
    obtain ⟨h5, h6⟩ := (fit_iff _ _ _).1 h4
    refine ⟨h1, h2, h5, fun k hk => ?_⟩
    have := h6 k ((sAtN (slotsF p.g) j).2.2.getD k 0) (at_some hk)
    exact this
  · apply Nat.eq_of_testBit_eq
    intro i
    rw [Nat.testBit_and]
    cases hb : ((narM p).getD ((sAtN (slotsF p.g) j).2.2.getD k 0).toNat 0).testBit i with
    | false => rfl
    | true =>
      have h1 := nar_stable hc _ hs k ((sAtN (slotsF p.g) j).2.2.getD k 0) (at_some hk) i hb
      unfold thereF at h1
      rw [← idx_map, List.map_map] at h1
      rw [Bool.true_and]
      exact h1
  · have := idx_len (fitL (narM p) (sAtN (slotsF p.g) j).2.2) p.W 0
    omega
theorem narM_no {p : Pr} (h : checkP p ≠ 0) : narM p = [] := if_neg h
theorem narW_no {p : Pr} (h : checkP p ≠ 0) : narW p = [] := if_neg h
end Go.Proofs.YtnakmganodkliaaAm
namespace Go.Proofs.YtnakmganodkliaaAm
open Go
theorem getD_any {α : Type} {l : List α} {k : Nat} (h : k < l.length) (a b : α) : l.getD k a = l.getD k b := by
  rw [List.getD_eq_getElem?_getD, List.getD_eq_getElem?_getD, List.getElem?_eq_getElem h]
  rfl
theorem getD_set_int (l : List Int) (c : Nat) (v : Int) (d : Nat) (e : Int) : (l.set c v).getD d e = if c = d ∧ c < l.length then v else l.getD d e := getD_set_gen e l c v d
structure PickK (p : Pr) (pick : List Int) (s k : Nat) (ls : List Int) : Prop where
  all : Picked p pick s ls
  cur : ∀ j x, j < k → (sAtN (slotsF p.g) s).2.2[j]? = some x → ls.getD x.toNat (-1) = (wordAt p.W (pick.getD s 0)).getD j 0 ∧ 0 ≤ ls.getD x.toNat (-1)
theorem seat_in {p : Pr} {s : Nat} (hs : s < (slotsF p.g).length) {x : Int} (hx : x ∈ (sAtN (slotsF p.g) s).2.2) : seatedB (slotsF p.g) x.toNat = true := by
  unfold seatedB
  rw [List.any_eq_true]
  refine ⟨sAtN (slotsF p.g) s, getD_in (d := (0, false, [])) hs, ?_⟩
  rw [List.any_eq_true]
  exact ⟨x, hx, by simp⟩
theorem PickK.step {p : Pr} {pick ls : List Int} {s k : Nat} {c y : Int} (q : PickK p pick s k ls) (hs : s < (slotsF p.g).length) (hk : k < (sAtN (slotsF p.g) s).2.2.length) (hc : (sAtN (slotsF p.g) s).2.2.getD k 0 = c) (hy : (wordAt p.W (pick.getD s 0)).getD k 0 = y) (hcl : c.toNat < ls.length)
    (hh : hasN (p.M.getD c.toNat 0) y = true) (ho : 0 ≤ ls.getD c.toNat 0 → ls.getD c.toNat 0 = y) : PickK p pick s (k + 1) (ls.set c.toNat y) := by
  have hy0 := has_lt hh
  have ho' : 0 ≤ ls.getD c.toNat (-1) → ls.getD c.toNat (-1) = y := by rw [getD_any hcl (-1) 0]; exact ho
  have hset : ∀ d : Nat, (ls.set c.toNat y).getD d (-1) = if c.toNat = d then y else ls.getD d (-1) := fun d => by
    rw [getD_set_int]
    by_cases e : c.toNat = d
    · rw [if_pos ⟨e, hcl⟩, if_pos e]
    · rw [if_neg (fun h => e h.1), if_neg e]
  refine ⟨⟨by rw [List.length_set]; exact q.all.len, fun d hd => ?_, q.all.word, fun t ht j x hx => ?_⟩, fun j x hj hx => ?_⟩
  · rw [hset] at hd ⊢
    by_cases e : c.toNat = d
    · rw [if_pos e]
      subst e
      refine ⟨hh, seat_in hs ?_⟩
      rw [← hc]
      exact getD_in hk
    · rw [if_neg e] at hd ⊢
      exact q.all.low d hd
  · have h1 := q.all.here t ht j x hx
    rw [hset]
    by_cases e : c.toNat = x.toNat
    · rw [if_pos e]
      rw [← e] at h1
      have h2 := ho' h1.2
      exact ⟨by rw [← h2]; exact h1.1, hy0.1⟩
    · rw [if_neg e]
      exact h1
  · rw [hset]
    by_cases ej : j = k
    · subst ej
      have hxc : x = c := by
        rw [← hc, List.getD_eq_getElem?_getD, hx]
        rfl
      rw [if_pos (by rw [hxc]), hy]
      exact ⟨rfl, hy0.1⟩
    · have h1 := q.cur j x (by omega) hx
      by_cases e : c.toNat = x.toNat
      · rw [if_pos e]
        rw [← e] at h1
        have h2 := ho' h1.2
        exact ⟨by rw [← h2]; exact h1.1, hy0.1⟩
      · rw [if_neg e]
        exact h1
theorem PickK.done {p : Pr} {pick ls : List Int} {s : Nat} (q : PickK p pick s (sAtN (slotsF p.g) s).2.2.length ls) (hw : 0 ≤ pick.getD s 0 ∧ pick.getD s 0 < p.W.length ∧ (wordAt p.W (pick.getD s 0)).length = (sAtN (slotsF p.g) s).2.2.length) : Picked p pick (s + 1) ls := by
  refine ⟨q.all.len, q.all.low, fun t ht => ?_, fun t ht j x hx => ?_⟩
  · by_cases e : t = s
    · subst e; exact hw
    · exact q.all.word t (by omega)
  · by_cases e : t = s
    · subst e
      exact q.cur j x (List.getElem?_eq_some_iff.1 hx).1 hx
    · exact q.all.here t (by omega) j x hx
end Go.Proofs.YtnakmganodkliaaAm
namespace Go.Proofs.YtnakmganodkliaaAm
open Go
structure Under (M Q : List Nat) : Prop where
  len : Q.length = M.length
  leq : Leq Q M
  small : Smalls Q
theorem Under.step {M Q Z : List Nat} (u : Under M Q) (hZ : Smalls Z) (i : Nat) : Under M (Q.set i (Q.getD i 0 &&& Z.getD i 0)) := by
  have hle : Leq (Q.set i (Q.getD i 0 &&& Z.getD i 0)) Q := by
    intro c j h
    unfold bitAt at h ⊢
    rw [getD_set_nat] at h
    split at h
    · rename_i e
      rw [Nat.testBit_and, Bool.and_eq_true] at h
      rw [← e.1]
      exact h.1
    · exact h
  exact ⟨by rw [List.length_set]; exact u.len, hle.trans u.leq, leq_small hle u.small⟩
end Go.Proofs.YtnakmganodkliaaAm
namespace Go.Proofs.YtnakmganodkliaaAm
open Go
abbrev prT : Ty := .prod (.prod (.int .i64) (.prod (.int .i64) (.prod (.sl .bool) (.prod (.sl .bool) (.sl .bool))))) (.prod (.sl (.sl (.int .i64))) (.sl (.int .u64)))
theorem small_of {Z : List Int} (h : ∀ x ∈ Z, wfS (.int .u64) x) : Smalls (Nt Z) ∧ Mi (Nt Z) = Z := by
  induction Z with
  | nil => exact ⟨fun x hx => by simp [Nt] at hx, rfl⟩
  | cons a Z ih =>
    obtain ⟨h1, h2⟩ := ih fun x hx => h x (List.mem_cons_of_mem _ hx)
    have ha := h a List.mem_cons_self
    have ha0 : 0 ≤ a ∧ a < 18446744073709551616 := by
      have h1 : IntKind.u64.min ≤ a := ha.1
      have h2 : a ≤ IntKind.u64.max := ha.2
      rw [show IntKind.u64.min = 0 by decide] at h1
      rw [show IntKind.u64.max = 18446744073709551615 by decide] at h2
      omega
    refine ⟨fun x hx => ?_, ?_⟩
    · rcases List.mem_cons.1 (show x ∈ a.toNat :: Nt Z from hx) with e | e
      · subst e
        show a.toNat < 18446744073709551616
        omega
      · exact h1 x e
    · show ((a.toNat : Nat) : Int) :: Mi (Nt Z) = a :: Z
      rw [h2, Int.toNat_of_nonneg ha0.1]
theorem pr_fits {h w : Int} {B R L : List Bool} {W : List (List Int)} {M : List Int} (wf : wfS prT ((h, w, B, R, L), W, M)) : (Pr.mk ⟨h, w, B, R, L⟩ W (Nt M)).fits ∧ Mi (Nt M) = M := by
  obtain ⟨⟨_, _, ⟨b, _⟩, ⟨r, _⟩, l, _⟩, ⟨w1, w2⟩, m1, m2⟩ := wf
  simp only [reachBytes, Ty.bytes, Nat.mul_one, IntKind.bits] at b r l w1 m1
  have q := small_of m2
  have hl : (Nt M).length = M.length := by simp [Nt]
  refine ⟨⟨⟨b, r, l⟩, by simp only; omega, fun x hx => ?_, by simp only; omega, q.1⟩, q.2⟩
  have h3 := (w2 x hx).1
  simp only [reachBytes, Ty.bytes, IntKind.bits] at h3
  omega
end Go.Proofs.YtnakmganodkliaaAm
set_option maxRecDepth 100000
namespace Go.Proofs.YtnakmganodkliaaAm
open Go
def spNe : Sp := fun f args rd => if f = 1000001 then some { f := 0, args := [], val := .top } else if f = 60 then spNc f args rd else spNb f args rd
theorem getD_setw (l : List (List Int)) (c : Nat) (v : List Int) (d : Nat) : (l.set c v).getD d [] = if c = d ∧ c < l.length then v else l.getD d [] := getD_set_gen [] l c v d
structure NegI (ws N : List (List Int)) (i k : Nat) : Prop where
  len : N.length = ws.length
  lens : ∀ j : Nat, j < ws.length → (N.getD j []).length = (ws.getD j []).length
  neg : ∀ j : Nat, j < i → ∀ t : Nat, t < (N.getD j []).length → (N.getD j []).getD t 0 = -(j : Int)
  cur : ∀ t : Nat, t < k → (N.getD i []).getD t 0 = -(i : Int)
theorem neg_new (ws : List (List Int)) : NegI ws ws 0 0 := ⟨rfl, fun _ _ => rfl, fun j h => by omega, fun t h => by omega⟩
theorem NegI.done {ws N : List (List Int)} {i : Nat} (q : NegI ws N i (N.getD i []).length) : NegI ws N (i + 1) 0 := by
  refine ⟨q.len, q.lens, fun j hj t ht => ?_, fun t h => by omega⟩
  by_cases e : j = i
  · subst e
    exact q.cur t ht
  · exact q.neg j (by omega) t ht
theorem NegI.step {ws N : List (List Int)} {i k : Nat} (q : NegI ws N i k) (hi : i < N.length) (hk : k < (N.getD i []).length) : NegI ws (N.set i ((N.getD i []).set k (-(i : Int)))) i (k + 1) := by
  have hs : ∀ j : Nat, (N.set i ((N.getD i []).set k (-(i : Int)))).getD j [] = if i = j then (N.getD i []).set k (-(i : Int)) else N.getD j [] := fun j => by
    rw [getD_setw]
    by_cases e : i = j
    · rw [if_pos ⟨e, hi⟩, if_pos e]
    · rw [if_neg (fun h => e h.1), if_neg e]
  refine ⟨by rw [List.length_set]; exact q.len, fun j hj => ?_, fun j hj t ht => ?_, fun t ht => ?_⟩
  · rw [hs]
    split
    · rename_i e
      rw [List.length_set, e]
      exact q.lens j hj
    · exact q.lens j hj
  · rw [hs, if_neg (by omega)] at ht ⊢
    exact q.neg j hj t ht
  · rw [hs, if_pos rfl, getD_set_gen]
    by_cases e : k = t
    · rw [if_pos ⟨e, hk⟩]
    · rw [if_neg (fun h => e h.1)]
      exact q.cur t (by omega)
end Go.Proofs.YtnakmganodkliaaAm
set_option maxRecDepth 100000
namespace Go.Proofs.YtnakmganodkliaaAm
open Go
def vq41 (g : Gr) (W : List (List Int)) (M : List Nat) (m : List Nat) (ws : List (List Int)) (o : Bool) (C : List Int) (N : List (List Int)) (i : Int) (l : List Int) (t : Int) (G : Nat → St → Prop) (R : D × List (Option Row) × List Row → Prop) : Prop := let yy0 := (Row.box 68 [D.v (Value.int IntKind.i64 g.h), D.v (Value.int IntKind.i64 g.w), D.sl false false Ty.bool g.B, D.sl false false Ty.bool g.R, D.sl false false Ty.bool g.L, D.sl false false (Ty.int IntKind.i64).sl W, D.sl false false (Ty.int IntKind.u64) (Mi M)]); let yy1 := (Ty.int IntKind.i64); let yy2 := (Row.box 71 [D.sl false false (Ty.int IntKind.u64) (Mi m), D.sl false false yy1.sl ws, D.v (Value.bool o)]); (decide (t < (↑l.length : Int)) = true → (0 : Int) ≤ t ∧ t < (↑l.length : Int) ∧ 0 + t.toNat < l.length ∧ ((l.getD (0 + t.toNat) yy1.dflt != IntKind.i64.wrap ((0 : Int) - i)) = true → R (D.v (Value.bool false), [], [])) ∧ ((l.getD (0 + t.toNat) yy1.dflt != IntKind.i64.wrap ((0 : Int) - i)) = false → SameK (KK n15 4) (KK n15 4) ∧ G 4 (stOf 140 [1, 3, 4, 6, 11, 107, 108, 115, 116, 117] [D.ptr 0 0 0, D.ptr 1 0 0, D.ptr 2 0 0, D.ptr 3 0 0, D.v (Value.int IntKind.i64 i), D.v (Value.int IntKind.i64 (↑ws.length : Int)), D.v (Value.int IntKind.i64 i), D.own 4 0 l.length none, D.v (Value.int IntKind.i64 (↑l.length : Int)), D.v (Value.int IntKind.i64 (IntKind.i64.wrap (t + (1 : Int))))] [Slot.live yy0, Slot.live (Row.box 68 [D.v (Value.int IntKind.i64 g.h), D.v (Value.int IntKind.i64 g.w), D.own 5 0 g.B.length none, D.own 6 0 g.R.length none, D.own 7 0 g.L.length none, D.own 8 0 W.length none, D.own 9 0 M.length none]), Slot.live (Row.box 71 [D.own 10 0 m.length none, D.own 11 0 ws.length none, D.v (Value.bool o)]), Slot.live yy2, Slot.live (Row.data 3 yy1 l), Slot.live (Row.data 4 Ty.bool g.B), Slot.live (Row.data 4 Ty.bool g.R), Slot.live (Row.data 4 Ty.bool g.L), Slot.live (Row.data 46 yy1.sl W), Slot.live (Row.data 80 (Ty.int IntKind.u64) (Mi M)), Slot.live (Row.data 80 (Ty.int IntKind.u64) C), Slot.live (Row.nest (NK.mk 46 yy1.sl 0 3 yy1) N (some (i.toNat, D.own 4 0 l.length none)))]))) ∧ (decide (t < (↑l.length : Int)) = false → SameK (KK n15 3) (KK n15 3) ∧ G 3 (stOf 140 [1, 3, 4, 6, 107, 108] [D.ptr 0 0 0, D.ptr 1 0 0, D.ptr 2 0 0, D.ptr 3 0 0, D.v (Value.int IntKind.i64 (↑ws.length : Int)), D.v (Value.int IntKind.i64 (IntKind.i64.wrap (i + (1 : Int))))] [Slot.live yy0, Slot.live (Row.box 68 [D.v (Value.int IntKind.i64 g.h), D.v (Value.int IntKind.i64 g.w), D.own 4 0 g.B.length none, D.own 5 0 g.R.length none, D.own 6 0 g.L.length none, D.own 7 0 W.length none, D.own 8 0 M.length none]), Slot.live (Row.box 71 [D.own 9 0 m.length none, D.own 10 0 ws.length none, D.v (Value.bool o)]), Slot.live yy2, Slot.live (Row.data 4 Ty.bool g.B), Slot.live (Row.data 4 Ty.bool g.R), Slot.live (Row.data 4 Ty.bool g.L), Slot.live (Row.data 46 yy1.sl W), Slot.live (Row.data 80 (Ty.int IntKind.u64) (Mi M)), Slot.live (Row.data 80 (Ty.int IntKind.u64) C), Slot.live (Row.nest (NK.mk 46 yy1.sl 0 3 yy1) (N.set i.toNat (List.take l.length l)) none)]))
theorem e15d (g : Gr) (W : List (List Int)) (M : List Nat) (m : List Nat) (ws : List (List Int)) (o : Bool) (C : List Int) (N : List (List Int)) (i : Int) (l : List Int) (i0 : 0 ≤ i) (i1 : i < 1000) (hl : N.getD i.toNat [] = l) (hll : l.length ≤ 1000) (hn : ∀ t : Nat, t < l.length → l.getD t 0 = -i) (hx : GetsK Try.prog Try.f15.results.toList [none] (KK n15) 0 (.v (.bool true), [], []) 3 (stOf 140 [1,3,4,6,107,108] [.ptr 0 0 0, .ptr 1 0 0, .ptr 2 0 0, .ptr 3 0 0, .v (.int .i64 ws.length), .v (.int .i64 (i + 1))] [.live (.box 68 [.v (.int .i64 g.h), .v (.int .i64 g.w), .sl false false .bool g.B, .sl false false .bool g.R, .sl false false .bool g.L, slW W, slU M]), .live (.box 68 [.v (.int .i64 g.h), .v (.int .i64 g.w), .own 4 0 g.B.length none, .own 5 0 g.R.length none, .own 6 0 g.L.length none, .own 7 0 W.length none, .own 8 0 M.length none]), .live (.box 71 [.own 9 0 m.length none, .own 10 0 ws.length none, .v (.bool o)]), .live (.box 71 [slU m, slW ws, .v (.bool o)]), .live (.data 4 .bool g.B), .live (.data 4 .bool g.R), .live (.data 4 .bool g.L), .live (.data 46 WT W), .live (.data 80 (.int .u64) (Mi M)), .live (.data 80 (.int .u64) C), .live (.nest kW N none)])) (z : Nat) : ∀ (t : Int), 0 ≤ t → t + z = l.length → GetsK Try.prog Try.f15.results.toList [none] (KK n15) 0 (.v (.bool true), [], []) 4 (stOf 140 [1,3,4,6,11,107,108,115,116,117] [.ptr 0 0 0, .ptr 1 0 0, .ptr 2 0 0, .ptr 3 0 0, .v (.int .i64 i), .v (.int .i64 ws.length), .v (.int .i64 i), .own 4 0 l.length none, .v (.int .i64 l.length), .v (.int .i64 t)] [.live (.box 68 [.v (.int .i64 g.h), .v (.int .i64 g.w), .sl false false .bool g.B, .sl false false .bool g.R, .sl false false .bool g.L, slW W, slU M]), .live (.box 68 [.v (.int .i64 g.h), .v (.int .i64 g.w), .own 5 0 g.B.length none, .own 6 0 g.R.length none, .own 7 0 g.L.length none, .own 8 0 W.length none, .own 9 0 M.length none]), .live (.box 71 [.own 10 0 m.length none, .own 11 0 ws.length none, .v (.bool o)]), .live (.box 71 [slU m, slW ws, .v (.bool o)]), .live (.data 3 (.int .i64) l), .live (.data 4 .bool g.B), .live (.data 4 .bool g.R), .live (.data 4 .bool g.L), .live (.data 46 WT W), .live (.data 80 (.int .u64) (Mi M)), .live (.data 80 (.int .u64) C), .live (.nest kW N (some (i.toNat, .own 4 0 l.length none)))]) := by
  have hii : IntKind.i64.wrap (i + 1) = i + 1 := wrG (by omega) (by omega)
  have hni : IntKind.i64.wrap (0 - i) = -i := by rw [wrG (by omega) (by omega)]; omega
  induction z with
  | zero =>
    intro t t0 ht
    have hset : N.set i.toNat l = N := by rw [← hl]; exact set_same [] N i.toNat
    refine gets_vc (flag [2000073,2000082,2000092,2000115] spNe) (fun k => [[1,3,4,6,54,55],[1,3,4,6,65,66],[1,3,4,6,9,65,66,74,75],[1,3,4,6,107,108],[1,3,4,6,11,107,108,115,116,117]].getD k []) (fun k => if k = 4 then [⟨9999, 0, .unit⟩] else []) 400 (.fork (.fork .stop (.hd 4)) (.hd 3)) (V := vq41 g W M m ws o C N i l t) hmG (fun G R => by kernel_rfl) ?_
    unfold vq41
    try dsimp only
    simp only [hii, List.take_length, hset]
    simp (disch := omega) only [wrG, sameK_iff, true_and, and_true, decide_eq_true_eq, decide_eq_false_iff_not, ne_eq, not_false_eq_true, Bool.false_eq_true, Bool.true_eq_false, false_implies, true_implies, Ty.dflt, reduceCtorEq, beq_iff_eq, bne_iff_ne, beq_eq_false_iff_ne, bne_eq_false_iff_eq, Bool.not_eq_true, Bool.not_eq_eq_eq_not, Bool.not_true, Bool.not_false, gt_iff_lt, ge_iff_le, Int.not_lt, Int.not_le]
    repeat' (first | with_reducible refine And.intro ?_ ?_ | intro _)
    all_goals first | rfl | omega | assumption | trivial | exact roomI (by omega) | (exfalso; simp_all; done) | (exfalso; omega) | skip
  | succ z ih =>
    intro t t0 ht
    have hk1 : IntKind.i64.wrap (t + 1) = t + 1 := wrG (by omega) (by omega)
    have h1 := ih (t + 1) (by omega) (by omega)
    have h2 := hn t.toNat (by omega)
    have h3 : (-i != -i) = false := by simp
    refine gets_vc (flag [2000073,2000082,2000092,2000115] spNe) (fun k => [[1,3,4,6,54,55],[1,3,4,6,65,66],[1,3,4,6,9,65,66,74,75],[1,3,4,6,107,108],[1,3,4,6,11,107,108,115,116,117]].getD k []) (fun k => if k = 4 then [⟨9999, 0, .unit⟩] else []) 400 (.fork (.fork .stop (.hd 4)) (.hd 3)) (V := vq41 g W M m ws o C N i l t) hmG (fun G R => by kernel_rfl) ?_
    unfold vq41
    try dsimp only
    simp only [Ty.dflt, hk1, hni, h2, h3, Nat.zero_add]
    simp (disch := omega) only [wrG, sameK_iff, true_and, and_true, decide_eq_true_eq, decide_eq_false_iff_not, ne_eq, not_false_eq_true, Bool.false_eq_true, Bool.true_eq_false, false_implies, true_implies, Ty.dflt, reduceCtorEq, beq_iff_eq, bne_iff_ne, beq_eq_false_iff_ne, bne_eq_false_iff_eq, Bool.not_eq_true, Bool.not_eq_eq_eq_not, Bool.not_true, Bool.not_false, gt_iff_lt, ge_iff_le, Int.not_lt, Int.not_le]
    repeat' (first | with_reducible refine And.intro ?_ ?_ | intro _)
    all_goals first | rfl | omega | assumption | trivial | exact roomI (by omega) | (exfalso; simp_all; done) | (exfalso; omega) | skip
def vq42 (g : Gr) (W : List (List Int)) (M : List Nat) (m : List Nat) (ws : List (List Int)) (o : Bool) (C : List Int) (N : List (List Int)) (i : Int) (G : Nat → St → Prop) (R : D × List (Option Row) × List Row → Prop) : Prop := let yy0 := (Pr.mk g (List.take W.length (List.drop 0 W)) (Nt (List.take M.length (List.drop 0 (Mi M))))); let yy1 := (Pr.mk g W (Nt (Mi M))); let yy2 := (Ty.int IntKind.i64); let yy3 := (List.take (narM yy0).length (List.drop 0 (Mi (narM yy0))) = Mi m ∧ List.take (narW yy0).length (List.drop 0 (narW yy0)) = ws ∧ narO yy0 = o); let yy4 := (N.getD (0 + i.toNat) (NK.mk 46 yy2.sl 0 3 yy2).t.dflt); let yy5 := (Ty.int IntKind.u64); (decide (i < (↑ws.length : Int)) = true → (0 : Int) ≤ i ∧ i < (↑ws.length : Int) ∧ 0 + i.toNat < N.length ∧ SameK (KK n15 4) (KK n15 4) ∧ G 4 (stOf 140 [1, 3, 4, 6, 11, 107, 108, 115, 116, 117] [D.ptr 0 0 0, D.ptr 1 0 0, D.ptr 2 0 0, D.ptr 3 0 0, D.v (Value.int IntKind.i64 i), D.v (Value.int IntKind.i64 (↑ws.length : Int)), D.v (Value.int IntKind.i64 i), D.own 4 0 (List.length yy4) none, D.v (Value.int IntKind.i64 (↑(List.length yy4) : Int)), D.v (Value.int IntKind.i64 (0 : Int))] [Slot.live (Row.box 68 [D.v (Value.int IntKind.i64 g.h), D.v (Value.int IntKind.i64 g.w), D.sl false false Ty.bool g.B, D.sl false false Ty.bool g.R, D.sl false false Ty.bool g.L, D.sl false false yy2.sl W, D.sl false false yy5 (Mi M)]), Slot.live (Row.box 68 [D.v (Value.int IntKind.i64 g.h), D.v (Value.int IntKind.i64 g.w), D.own 5 0 g.B.length none, D.own 6 0 g.R.length none, D.own 7 0 g.L.length none, D.own 8 0 W.length none, D.own 9 0 M.length none]), Slot.live (Row.box 71 [D.own 10 0 m.length none, D.own 11 0 ws.length none, D.v (Value.bool o)]), Slot.live (Row.box 71 [D.sl false false yy5 (Mi m), D.sl false false yy2.sl ws, D.v (Value.bool o)]), Slot.live (Row.data 3 yy2 yy4), Slot.live (Row.data 4 Ty.bool g.B), Slot.live (Row.data 4 Ty.bool g.R), Slot.live (Row.data 4 Ty.bool g.L), Slot.live (Row.data 46 yy2.sl W), Slot.live (Row.data 80 yy5 (Mi M)), Slot.live (Row.data 80 yy5 C), Slot.live (Row.nest (NK.mk 46 yy2.sl 0 3 yy2) N (some (0 + i.toNat, D.own 4 0 (List.length yy4) none)))])) ∧ (decide (i < (↑ws.length : Int)) = false → Con Try.prog 59 [] [D.agg [D.v (Value.int IntKind.i64 yy0.g.h), D.v (Value.int IntKind.i64 yy0.g.w), D.sl false false Ty.bool yy0.g.B, D.sl false false Ty.bool yy0.g.R, D.sl false false Ty.bool yy0.g.L, D.sl false false yy2.sl yy0.W, D.sl false false yy5 (Mi yy0.M)]] (D.tup [D.agg [D.own 0 0 (narM yy0).length none, D.own 1 0 (narW yy0).length none, D.v (Value.bool (narO yy0))], D.v (Value.int IntKind.i64 (checkP yy0))]) [] [Row.data 80 yy5 (Mi (narM yy0)), Row.nest (NK.mk 46 yy2.sl 0 3 yy2) (narW yy0) none] ∧ Value.int IntKind.i64 g.h = Value.int IntKind.i64 yy0.g.h ∧ Value.int IntKind.i64 g.w = Value.int IntKind.i64 yy0.g.w ∧ List.take g.B.length (List.drop 0 g.B) = yy0.g.B ∧ List.take g.R.length (List.drop 0 g.R) = yy0.g.R ∧ List.take g.L.length (List.drop 0 g.L) = yy0.g.L ∧ List.take W.length (List.drop 0 W) = yy0.W ∧ List.take M.length (List.drop 0 (Mi M)) = Mi yy0.M ∧ Con Try.prog 61 [] [D.agg [D.sl false false yy5 (List.take (narM yy0).length (List.drop 0 (Mi (narM yy0)))), D.sl false false yy2.sl (List.take (narW yy0).length (List.drop 0 (narW yy0))), D.v (Value.bool (narO yy0))], D.agg [D.sl false false yy5 (Mi m), D.sl false false yy2.sl ws, D.v (Value.bool o)]] (D.v (Value.bool (decide yy3))) [] [] ∧ List.take (narM yy0).length (List.drop 0 (Mi (narM yy0))) = List.take (narM yy0).length (List.drop 0 (Mi (narM yy0))) ∧ List.take (narW yy0).length (List.drop 0 (narW yy0)) = List.take (narW yy0).length (List.drop 0 (narW yy0)) ∧ Value.bool (narO yy0) = Value.bool (narO yy0) ∧ Mi m = Mi m ∧ ws = ws ∧ Value.bool o = Value.bool o ∧ (decide yy3 = true → Con Try.prog 64 [] [D.agg [D.v (Value.int IntKind.i64 yy0.g.h), D.v (Value.int IntKind.i64 yy0.g.w), D.sl false false Ty.bool yy0.g.B, D.sl false false Ty.bool yy0.g.R, D.sl false false Ty.bool yy0.g.L, D.sl false false yy2.sl yy0.W, D.sl false false yy5 (Mi yy0.M)], D.agg [D.v (Value.int IntKind.i64 yy1.g.h), D.v (Value.int IntKind.i64 yy1.g.w), D.sl false false Ty.bool yy1.g.B, D.sl false false Ty.bool yy1.g.R, D.sl false false Ty.bool yy1.g.L, D.sl false false yy2.sl yy1.W, D.sl false false yy5 (Mi yy1.M)]] (D.v (Value.bool (decide (yy0.g = yy1.g ∧ yy0.M = yy1.M ∧ yy0.W = yy1.W)))) [] [] ∧ Value.int IntKind.i64 g.h = Value.int IntKind.i64 yy0.g.h ∧ Value.int IntKind.i64 g.w = Value.int IntKind.i64 yy0.g.w ∧ List.take g.B.length (List.drop 0 g.B) = yy0.g.B ∧ List.take g.R.length (List.drop 0 g.R) = yy0.g.R ∧ List.take g.L.length (List.drop 0 g.L) = yy0.g.L ∧ List.take W.length (List.drop 0 W) = yy0.W ∧ List.take M.length (List.drop 0 (Mi M)) = Mi yy0.M ∧ Value.int IntKind.i64 g.h = Value.int IntKind.i64 yy1.g.h ∧ Value.int IntKind.i64 g.w = Value.int IntKind.i64 yy1.g.w ∧ g.B = yy1.g.B ∧ g.R = yy1.g.R ∧ g.L = yy1.g.L ∧ W = yy1.W ∧ Mi M = Mi yy1.M ∧ R (D.v (Value.bool (decide (yy0.g = yy1.g ∧ yy0.M = yy1.M ∧ yy0.W = yy1.W))), [], [])) ∧ (decide yy3 = false → R (D.v (Value.bool false), [], [])))
theorem e15c (g : Gr) (W : List (List Int)) (M : List Nat) (m : List Nat) (ws : List (List Int)) (o : Bool) (C : List Int) (N : List (List Int)) (F : (Pr.mk g W M).fits) (hm : m.length ≤ 17592186044416) (hC : C.length = m.length) (hwsl : ws.length ≤ 1000) (hws : ∀ j : Nat, j < ws.length → (ws.getD j []).length ≤ 1000) (q : NegI ws N ws.length 0) (hM : narM ⟨g, W, M⟩ = m) (hW : narW ⟨g, W, M⟩ = ws) (hO : narO ⟨g, W, M⟩ = o) (z : Nat) : ∀ (i : Int), 0 ≤ i → i + z = ws.length → GetsK Try.prog Try.f15.results.toList [none] (KK n15) 0 (.v (.bool true), [], []) 3 (stOf 140 [1,3,4,6,107,108] [.ptr 0 0 0, .ptr 1 0 0, .ptr 2 0 0, .ptr 3 0 0, .v (.int .i64 ws.length), .v (.int .i64 i)] [.live (.box 68 [.v (.int .i64 g.h), .v (.int .i64 g.w), .sl false false .bool g.B, .sl false false .bool g.R, .sl false false .bool g.L, slW W, slU M]), .live (.box 68 [.v (.int .i64 g.h), .v (.int .i64 g.w), .own 4 0 g.B.length none, .own 5 0 g.R.length none, .own 6 0 g.L.length none, .own 7 0 W.length none, .own 8 0 M.length none]), .live (.box 71 [.own 9 0 m.length none, .own 10 0 ws.length none, .v (.bool o)]), .live (.box 71 [slU m, slW ws, .v (.bool o)]), .live (.data 4 .bool g.B), .live (.data 4 .bool g.R), .live (.data 4 .bool g.L), .live (.data 46 WT W), .live (.data 80 (.int .u64) (Mi M)), .live (.data 80 (.int .u64) C), .live (.nest kW N none)]) := by
  have hql := q.len
  induction z with
  | zero =>
    intro i i0 hi
    have hW1 := F.W
    have hw1 := F.w
    have hM1 := F.M
    simp only at hW1 hw1 hM1
    have c59 := d59 g W M F.small
    have hww : ∀ w ∈ ws, w.length ≤ 17592186044416 := by
      intro w hw
      obtain ⟨j, hj, e⟩ := List.getElem_of_mem hw
      have := hws j hj
      rw [List.getD_eq_getElem?_getD, List.getElem?_eq_getElem hj, e] at this
      simp only [Option.getD_some] at this
      omega
    have c61 := d61 (Mi m) (Mi m) ws ws o o (by rw [Mi_len]; omega) (by omega) hww
    have c64 := d64 g W M g W M (fits_small F.g) hM1 hW1 hw1
    simp only [and_self, decide_true] at c61 c64
    refine gets_vc (flag [2000073,2000082,2000092,2000115] spNe) (fun k => [[1,3,4,6,54,55],[1,3,4,6,65,66],[1,3,4,6,9,65,66,74,75],[1,3,4,6,107,108],[1,3,4,6,11,107,108,115,116,117]].getD k []) (fun k => if k = 4 then [⟨9999, 0, .unit⟩] else []) 400 (.fork (.hd 4) (.fork .stop .stop)) (V := vq42 g W M m ws o C N i) hmG (fun G R => by kernel_rfl) ?_
    unfold vq42
    try dsimp only
    simp only [take_len, List.drop_zero, List.take_length, Mi_getD, Mi_len, Nt_Mi, Int.toNat_natCast, Mi_set, Nat.zero_add, Nat.sub_zero, List.length_set, take_one, takeSn, List.take_zero, List.nil_append, List.length_append, List.length_cons, List.length_nil, Mi_take, narVal, hM, hW, hO, and_self, decide_true] at c59 ⊢
    simp (disch := omega) only [wrG, sameK_iff, true_and, and_true, decide_eq_true_eq, decide_eq_false_iff_not, ne_eq, not_false_eq_true, Bool.false_eq_true, Bool.true_eq_false, false_implies, true_implies, Ty.dflt, reduceCtorEq, beq_iff_eq, bne_iff_ne, beq_eq_false_iff_ne, bne_eq_false_iff_eq, Bool.not_eq_true, Bool.not_eq_eq_eq_not, Bool.not_true, Bool.not_false, gt_iff_lt, ge_iff_le, Int.not_lt, Int.not_le]
    repeat' (first | with_reducible refine And.intro ?_ ?_ | intro _)
    all_goals first | rfl | omega | assumption | trivial | exact roomI (by omega) | (exfalso; simp_all; done) | (exfalso; omega) | skip
  | succ z ih =>
    intro i i0 hi
    have hlj := q.lens i.toNat (by omega)
    have hwj := hws i.toNat (by omega)
    have hneg := q.neg i.toNat (by omega)
    have hit : ((i.toNat : Nat) : Int) = i := by omega
    rw [hit] at hneg
    have h1 := e15d g W M m ws o C N i (N.getD i.toNat []) i0 (by omega) rfl (by omega) hneg (ih (i + 1) (by omega) (by omega)) (N.getD i.toNat []).length 0 (by omega) (by omega)
    refine gets_vc (flag [2000073,2000082,2000092,2000115] spNe) (fun k => [[1,3,4,6,54,55],[1,3,4,6,65,66],[1,3,4,6,9,65,66,74,75],[1,3,4,6,107,108],[1,3,4,6,11,107,108,115,116,117]].getD k []) (fun k => if k = 4 then [⟨9999, 0, .unit⟩] else []) 400 (.fork (.hd 4) (.fork .stop .stop)) (V := vq42 g W M m ws o C N i) hmG (fun G R => by kernel_rfl) ?_
    unfold vq42
    try dsimp only
    simp only [Ty.dflt, Nat.zero_add]
    simp (disch := omega) only [wrG, sameK_iff, true_and, and_true, decide_eq_true_eq, decide_eq_false_iff_not, ne_eq, not_false_eq_true, Bool.false_eq_true, Bool.true_eq_false, false_implies, true_implies, Ty.dflt, reduceCtorEq, beq_iff_eq, bne_iff_ne, beq_eq_false_iff_ne, bne_eq_false_iff_eq, Bool.not_eq_true, Bool.not_eq_eq_eq_not, Bool.not_true, Bool.not_false, gt_iff_lt, ge_iff_le, Int.not_lt, Int.not_le]
    repeat' (first | with_reducible refine And.intro ?_ ?_ | intro _)
    all_goals first | rfl | omega | assumption | trivial | exact roomI (by omega) | (exfalso; simp_all; done) | (exfalso; omega) | skip
def vq43 (g : Gr) (W : List (List Int)) (M : List Nat) (m : List Nat) (ws : List (List Int)) (o : Bool) (C : List Int) (i : Int) (n : Nat) (k : Int) (N : List (List Int)) (G : Nat → St → Prop) (R : D × List (Option Row) × List Row → Prop) : Prop := let yy0 := (N.getD (0 + i.toNat) (NK.mk 46 (Ty.int IntKind.i64).sl 0 3 (Ty.int IntKind.i64)).t.dflt); let yy1 := (Row.box 68 [D.v (Value.int IntKind.i64 g.h), D.v (Value.int IntKind.i64 g.w), D.sl false false Ty.bool g.B, D.sl false false Ty.bool g.R, D.sl false false Ty.bool g.L, D.sl false false (Ty.int IntKind.i64).sl W, D.sl false false (Ty.int IntKind.u64) (Mi M)]); let yy2 := (Row.box 68 [D.v (Value.int IntKind.i64 g.h), D.v (Value.int IntKind.i64 g.w), D.own 4 0 g.B.length none, D.own 5 0 g.R.length none, D.own 6 0 g.L.length none, D.own 7 0 W.length none, D.own 8 0 M.length none]); let yy3 := (Ty.int IntKind.i64); let yy4 := ((↑(List.length yy0 + 1) : Int) != IntKind.i64.wrap ((↑(List.length (ws.getD i.toNat yy3.sl.dflt)) : Int) + (1 : Int))); let yy5 := (Row.box 71 [D.sl false false (Ty.int IntKind.u64) (Mi m), D.sl false false yy3.sl ws, D.v (Value.bool o)]); let yy6 := (Row.box 71 [D.own 9 0 m.length none, D.own 10 0 ws.length none, D.v (Value.bool o)]); (decide (k < (↑n : Int)) = true → (0 : Int) ≤ i ∧ i < (↑ws.length : Int) ∧ 0 + i.toNat < N.length ∧ (0 : Int) ≤ k ∧ k < (↑(List.length yy0) : Int) ∧ 0 + k.toNat < List.length yy0 ∧ SameK (KK n15 2) (KK n15 2) ∧ G 2 (stOf 140 [1, 3, 4, 6, 9, 65, 66, 74, 75] [D.ptr 0 0 0, D.ptr 1 0 0, D.ptr 2 0 0, D.ptr 3 0 0, D.v (Value.int IntKind.i64 i), D.v (Value.int IntKind.i64 (↑ws.length : Int)), D.v (Value.int IntKind.i64 i), D.v (Value.int IntKind.i64 (↑n : Int)), D.v (Value.int IntKind.i64 (IntKind.i64.wrap (k + (1 : Int))))] [Slot.live yy1, Slot.live yy2, Slot.live yy6, Slot.live yy5, Slot.live (Row.data 4 Ty.bool g.B), Slot.live (Row.data 4 Ty.bool g.R), Slot.live (Row.data 4 Ty.bool g.L), Slot.live (Row.data 46 yy3.sl W), Slot.live (Row.data 80 (Ty.int IntKind.u64) (Mi M)), Slot.live (Row.data 80 (Ty.int IntKind.u64) C), Slot.live (Row.nest (NK.mk 46 yy3.sl 0 3 yy3) (N.set (0 + i.toNat) (List.take (List.length yy0) (List.set yy0 (0 + k.toNat) (IntKind.i64.wrap ((0 : Int) - i))))) none)])) ∧ (decide (k < (↑n : Int)) = false → (0 : Int) ≤ i ∧ i < (↑ws.length : Int) ∧ 0 + i.toNat < N.length ∧ List.length yy0 ≤ 0 + List.length yy0 ∧ roomy Try.prog 3 (List.length yy0 + 1) ∧ (0 : Int) ≤ i ∧ i < (↑ws.length : Int) ∧ (yy4 = true → R (D.v (Value.bool false), [], [])) ∧ (yy4 = false → SameK (KK n15 1) (KK n15 1) ∧ G 1 (stOf 140 [1, 3, 4, 6, 65, 66] [D.ptr 0 0 0, D.ptr 1 0 0, D.ptr 2 0 0, D.ptr 3 0 0, D.v (Value.int IntKind.i64 (↑ws.length : Int)), D.v (Value.int IntKind.i64 (IntKind.i64.wrap (i + (1 : Int))))] [Slot.live yy1, Slot.live yy2, Slot.live yy6, Slot.live yy5, Slot.live (Row.data 4 Ty.bool g.B), Slot.live (Row.data 4 Ty.bool g.R), Slot.live (Row.data 4 Ty.bool g.L), Slot.live (Row.data 46 yy3.sl W), Slot.live (Row.data 80 (Ty.int IntKind.u64) (Mi M)), Slot.live (Row.data 80 (Ty.int IntKind.u64) C), Slot.live (Row.nest (NK.mk 46 yy3.sl 0 3 yy3) (N.set (0 + i.toNat) (List.take (List.length yy0) yy0)) none)])))
theorem e15b (g : Gr) (W : List (List Int)) (M : List Nat) (m : List Nat) (ws : List (List Int)) (o : Bool) (C : List Int) (i : Int) (n : Nat) (i0 : 0 ≤ i) (i1 : i < ws.length) (hwsl : ws.length ≤ 1000) (hn : (ws.getD i.toNat []).length = n) (hnl : n ≤ 1000) (hx : ∀ N, NegI ws N (i.toNat + 1) 0 → GetsK Try.prog Try.f15.results.toList [none] (KK n15) 0 (.v (.bool true), [], []) 1 (stOf 140 [1,3,4,6,65,66] [.ptr 0 0 0, .ptr 1 0 0, .ptr 2 0 0, .ptr 3 0 0, .v (.int .i64 ws.length), .v (.int .i64 (i + 1))] [.live (.box 68 [.v (.int .i64 g.h), .v (.int .i64 g.w), .sl false false .bool g.B, .sl false false .bool g.R, .sl false false .bool g.L, slW W, slU M]), .live (.box 68 [.v (.int .i64 g.h), .v (.int .i64 g.w), .own 4 0 g.B.length none, .own 5 0 g.R.length none, .own 6 0 g.L.length none, .own 7 0 W.length none, .own 8 0 M.length none]), .live (.box 71 [.own 9 0 m.length none, .own 10 0 ws.length none, .v (.bool o)]), .live (.box 71 [slU m, slW ws, .v (.bool o)]), .live (.data 4 .bool g.B), .live (.data 4 .bool g.R), .live (.data 4 .bool g.L), .live (.data 46 WT W), .live (.data 80 (.int .u64) (Mi M)), .live (.data 80 (.int .u64) C), .live (.nest kW N none)])) (z : Nat) : ∀ (k : Int) (N : List (List Int)), 0 ≤ k → k + z = n → NegI ws N i.toNat k.toNat → GetsK Try.prog Try.f15.results.toList [none] (KK n15) 0 (.v (.bool true), [], []) 2 (stOf 140 [1,3,4,6,9,65,66,74,75] [.ptr 0 0 0, .ptr 1 0 0, .ptr 2 0 0, .ptr 3 0 0, .v (.int .i64 i), .v (.int .i64 ws.length), .v (.int .i64 i), .v (.int .i64 n), .v (.int .i64 k)] [.live (.box 68 [.v (.int .i64 g.h), .v (.int .i64 g.w), .sl false false .bool g.B, .sl false false .bool g.R, .sl false false .bool g.L, slW W, slU M]), .live (.box 68 [.v (.int .i64 g.h), .v (.int .i64 g.w), .own 4 0 g.B.length none, .own 5 0 g.R.length none, .own 6 0 g.L.length none, .own 7 0 W.length none, .own 8 0 M.length none]), .live (.box 71 [.own 9 0 m.length none, .own 10 0 ws.length none, .v (.bool o)]), .live (.box 71 [slU m, slW ws, .v (.bool o)]), .live (.data 4 .bool g.B), .live (.data 4 .bool g.R), .live (.data 4 .bool g.L), .live (.data 46 WT W), .live (.data 80 (.int .u64) (Mi M)), .live (.data 80 (.int .u64) C), .live (.nest kW N none)]) := by
  have hii : IntKind.i64.wrap (i + 1) = i + 1 := wrG (by omega) (by omega)
  have hni : IntKind.i64.wrap (0 - i) = -i := by rw [wrG (by omega) (by omega)]; omega
  induction z with
  | zero =>
    intro k N k0 hk q
    have hlj := q.lens i.toNat (by omega)
    have hql := q.len
    have hkk : k.toNat = (N.getD i.toNat []).length := by omega
    rw [hkk] at q
    have h1 := hx N q.done
    have hset : N.set i.toNat (N.getD i.toNat []) = N := set_same [] N i.toNat
    have hw1 : IntKind.i64.wrap ((n : Int) + 1) = n + 1 := wrG (by omega) (by omega)
    have he : ((((n + 1 : Nat)) : Int) != (n : Int) + 1) = false := by simp
    refine gets_vc (flag [2000073,2000082,2000092,2000115] spNe) (fun k => [[1,3,4,6,54,55],[1,3,4,6,65,66],[1,3,4,6,9,65,66,74,75],[1,3,4,6,107,108],[1,3,4,6,11,107,108,115,116,117]].getD k []) (fun k => if k = 4 then [⟨9999, 0, .unit⟩] else []) 400 (.fork (.hd 2) (.fork .stop (.hd 1))) (V := vq43 g W M m ws o C i n k N) hmG (fun G R => by kernel_rfl) ?_
    unfold vq43
    try dsimp only
    simp only [Ty.dflt, Nat.zero_add, List.take_length, hii, hlj, hn, hset, hw1, he]
    rw [show n = (N.getD i.toNat []).length by omega, List.take_length, hset]
    simp (disch := omega) only [wrG, sameK_iff, true_and, and_true, decide_eq_true_eq, decide_eq_false_iff_not, ne_eq, not_false_eq_true, Bool.false_eq_true, Bool.true_eq_false, false_implies, true_implies, Ty.dflt, reduceCtorEq, beq_iff_eq, bne_iff_ne, beq_eq_false_iff_ne, bne_eq_false_iff_eq, Bool.not_eq_true, Bool.not_eq_eq_eq_not, Bool.not_true, Bool.not_false, gt_iff_lt, ge_iff_le, Int.not_lt, Int.not_le]
    repeat' (first | with_reducible refine And.intro ?_ ?_ | intro _)
    all_goals first | rfl | omega | assumption | trivial | exact roomI (by omega) | (exfalso; simp_all; done) | (exfalso; omega) | skip
  | succ z ih =>
    intro k N k0 hk q
    have hk1 : IntKind.i64.wrap (k + 1) = k + 1 := wrG (by omega) (by omega)
    have hkt : (k + 1).toNat = k.toNat + 1 := by omega
    have hlj := q.lens i.toNat (by omega)
    have hql := q.len
    have hit : ((i.toNat : Nat) : Int) = i := by omega
    have hst := q.step (by omega) (by omega)
    rw [hit, ← hkt] at hst
    have h1 := ih (k + 1) _ (by omega) (by omega) hst
    have htk : List.take (N.getD i.toNat []).length ((N.getD i.toNat []).set k.toNat (-i)) = (N.getD i.toNat []).set k.toNat (-i) := List.take_of_length_le (by simp)
    refine gets_vc (flag [2000073,2000082,2000092,2000115] spNe) (fun k => [[1,3,4,6,54,55],[1,3,4,6,65,66],[1,3,4,6,9,65,66,74,75],[1,3,4,6,107,108],[1,3,4,6,11,107,108,115,116,117]].getD k []) (fun k => if k = 4 then [⟨9999, 0, .unit⟩] else []) 400 (.fork (.hd 2) (.fork .stop (.hd 1))) (V := vq43 g W M m ws o C i n k N) hmG (fun G R => by kernel_rfl) ?_
    unfold vq43
    try dsimp only
    simp only [Ty.dflt, Nat.zero_add, hk1, hni, htk]
    simp (disch := omega) only [wrG, sameK_iff, true_and, and_true, decide_eq_true_eq, decide_eq_false_iff_not, ne_eq, not_false_eq_true, Bool.false_eq_true, Bool.true_eq_false, false_implies, true_implies, Ty.dflt, reduceCtorEq, beq_iff_eq, bne_iff_ne, beq_eq_false_iff_ne, bne_eq_false_iff_eq, Bool.not_eq_true, Bool.not_eq_eq_eq_not, Bool.not_true, Bool.not_false, gt_iff_lt, ge_iff_le, Int.not_lt, Int.not_le]
    repeat' (first | with_reducible refine And.intro ?_ ?_ | intro _)
    all_goals first | rfl | omega | assumption | trivial | exact roomI (by omega) | (exfalso; simp_all; done) | (exfalso; omega) | skip
def vq44 (g : Gr) (W : List (List Int)) (M : List Nat) (m : List Nat) (ws : List (List Int)) (o : Bool) (C : List Int) (i : Int) (N : List (List Int)) (G : Nat → St → Prop) (R : D × List (Option Row) × List Row → Prop) : Prop := let yy0 := (Row.box 68 [D.v (Value.int IntKind.i64 g.h), D.v (Value.int IntKind.i64 g.w), D.sl false false Ty.bool g.B, D.sl false false Ty.bool g.R, D.sl false false Ty.bool g.L, D.sl false false (Ty.int IntKind.i64).sl W, D.sl false false (Ty.int IntKind.u64) (Mi M)]); let yy1 := (NK.mk 46 (Ty.int IntKind.i64).sl 0 3 (Ty.int IntKind.i64)); let yy2 := (Row.box 68 [D.v (Value.int IntKind.i64 g.h), D.v (Value.int IntKind.i64 g.w), D.own 4 0 g.B.length none, D.own 5 0 g.R.length none, D.own 6 0 g.L.length none, D.own 7 0 W.length none, D.own 8 0 M.length none]); let yy3 := (Row.box 71 [D.sl false false (Ty.int IntKind.u64) (Mi m), D.sl false false (Ty.int IntKind.i64).sl ws, D.v (Value.bool o)]); let yy4 := (Row.box 71 [D.own 9 0 m.length none, D.own 10 0 ws.length none, D.v (Value.bool o)]); (decide (i < (↑ws.length : Int)) = true → (0 : Int) ≤ i ∧ i < (↑ws.length : Int) ∧ 0 + i.toNat < N.length ∧ SameK (KK n15 2) (KK n15 2) ∧ G 2 (stOf 140 [1, 3, 4, 6, 9, 65, 66, 74, 75] [D.ptr 0 0 0, D.ptr 1 0 0, D.ptr 2 0 0, D.ptr 3 0 0, D.v (Value.int IntKind.i64 i), D.v (Value.int IntKind.i64 (↑ws.length : Int)), D.v (Value.int IntKind.i64 i), D.v (Value.int IntKind.i64 (↑(List.length (N.getD (0 + i.toNat) yy1.t.dflt)) : Int)), D.v (Value.int IntKind.i64 (0 : Int))] [Slot.live yy0, Slot.live yy2, Slot.live yy4, Slot.live yy3, Slot.live (Row.data 4 Ty.bool g.B), Slot.live (Row.data 4 Ty.bool g.R), Slot.live (Row.data 4 Ty.bool g.L), Slot.live (Row.data 46 (Ty.int IntKind.i64).sl W), Slot.live (Row.data 80 (Ty.int IntKind.u64) (Mi M)), Slot.live (Row.data 80 (Ty.int IntKind.u64) C), Slot.live (Row.nest yy1 (N.set (0 + i.toNat) (List.take (List.length (N.getD (0 + i.toNat) yy1.t.dflt)) (N.getD (0 + i.toNat) yy1.t.dflt))) none)])) ∧ (decide (i < (↑ws.length : Int)) = false → SameK (KK n15 3) (KK n15 3) ∧ G 3 (stOf 140 [1, 3, 4, 6, 107, 108] [D.ptr 0 0 0, D.ptr 1 0 0, D.ptr 2 0 0, D.ptr 3 0 0, D.v (Value.int IntKind.i64 (↑ws.length : Int)), D.v (Value.int IntKind.i64 (0 : Int))] [Slot.live yy0, Slot.live yy2, Slot.live yy4, Slot.live yy3, Slot.live (Row.data 4 Ty.bool g.B), Slot.live (Row.data 4 Ty.bool g.R), Slot.live (Row.data 4 Ty.bool g.L), Slot.live (Row.data 46 (Ty.int IntKind.i64).sl W), Slot.live (Row.data 80 (Ty.int IntKind.u64) (Mi M)), Slot.live (Row.data 80 (Ty.int IntKind.u64) C), Slot.live (Row.nest yy1 N none)]))
theorem e15a (g : Gr) (W : List (List Int)) (M : List Nat) (m : List Nat) (ws : List (List Int)) (o : Bool) (C : List Int) (hwsl : ws.length ≤ 1000) (hws : ∀ j : Nat, j < ws.length → (ws.getD j []).length ≤ 1000) (hx : ∀ N, NegI ws N ws.length 0 → GetsK Try.prog Try.f15.results.toList [none] (KK n15) 0 (.v (.bool true), [], []) 3 (stOf 140 [1,3,4,6,107,108] [.ptr 0 0 0, .ptr 1 0 0, .ptr 2 0 0, .ptr 3 0 0, .v (.int .i64 ws.length), .v (.int .i64 0)] [.live (.box 68 [.v (.int .i64 g.h), .v (.int .i64 g.w), .sl false false .bool g.B, .sl false false .bool g.R, .sl false false .bool g.L, slW W, slU M]), .live (.box 68 [.v (.int .i64 g.h), .v (.int .i64 g.w), .own 4 0 g.B.length none, .own 5 0 g.R.length none, .own 6 0 g.L.length none, .own 7 0 W.length none, .own 8 0 M.length none]), .live (.box 71 [.own 9 0 m.length none, .own 10 0 ws.length none, .v (.bool o)]), .live (.box 71 [slU m, slW ws, .v (.bool o)]), .live (.data 4 .bool g.B), .live (.data 4 .bool g.R), .live (.data 4 .bool g.L), .live (.data 46 WT W), .live (.data 80 (.int .u64) (Mi M)), .live (.data 80 (.int .u64) C), .live (.nest kW N none)])) (z : Nat) : ∀ (i : Int) (N : List (List Int)), 0 ≤ i → i + z = ws.length → NegI ws N i.toNat 0 → GetsK Try.prog Try.f15.results.toList [none] (KK n15) 0 (.v (.bool true), [], []) 1 (stOf 140 [1,3,4,6,65,66] [.ptr 0 0 0, .ptr 1 0 0, .ptr 2 0 0, .ptr 3 0 0, .v (.int .i64 ws.length), .v (.int .i64 i)] [.live (.box 68 [.v (.int .i64 g.h), .v (.int .i64 g.w), .sl false false .bool g.B, .sl false false .bool g.R, .sl false false .bool g.L, slW W, slU M]), .live (.box 68 [.v (.int .i64 g.h), .v (.int .i64 g.w), .own 4 0 g.B.length none, .own 5 0 g.R.length none, .own 6 0 g.L.length none, .own 7 0 W.length none, .own 8 0 M.length none]), .live (.box 71 [.own 9 0 m.length none, .own 10 0 ws.length none, .v (.bool o)]), .live (.box 71 [slU m, slW ws, .v (.bool o)]), .live (.data 4 .bool g.B), .live (.data 4 .bool g.R), .live (.data 4 .bool g.L), .live (.data 46 WT W), .live (.data 80 (.int .u64) (Mi M)), .live (.data 80 (.int .u64) C), .live (.nest kW N none)]) := by
  induction z with
  | zero =>
    intro i N i0 hi q
    have hit : i.toNat = ws.length := by omega
    rw [hit] at q
    have h1 := hx N q
    refine gets_vc (flag [2000073,2000082,2000092,2000115] spNe) (fun k => [[1,3,4,6,54,55],[1,3,4,6,65,66],[1,3,4,6,9,65,66,74,75],[1,3,4,6,107,108],[1,3,4,6,11,107,108,115,116,117]].getD k []) (fun k => if k = 4 then [⟨9999, 0, .unit⟩] else []) 400 (.fork (.hd 2) (.hd 3)) (V := vq44 g W M m ws o C i N) hmG (fun G R => by kernel_rfl) ?_
    unfold vq44
    try dsimp only
    simp (disch := omega) only [wrG, sameK_iff, true_and, and_true, decide_eq_true_eq, decide_eq_false_iff_not, ne_eq, not_false_eq_true, Bool.false_eq_true, Bool.true_eq_false, false_implies, true_implies, Ty.dflt, reduceCtorEq, beq_iff_eq, bne_iff_ne, beq_eq_false_iff_ne, bne_eq_false_iff_eq, Bool.not_eq_true, Bool.not_eq_eq_eq_not, Bool.not_true, Bool.not_false, gt_iff_lt, ge_iff_le, Int.not_lt, Int.not_le]
    repeat' (first | with_reducible refine And.intro ?_ ?_ | intro _)
    all_goals first | rfl | omega | assumption | trivial | exact roomI (by omega) | (exfalso; simp_all; done) | (exfalso; omega) | skip
  | succ z ih =>
    intro i N i0 hi q
    have hit : (i + 1).toNat = i.toNat + 1 := by omega
    have hlj := q.lens i.toNat (by omega)
    have hql := q.len
    have hwj := hws i.toNat (by omega)
    have hset : N.set i.toNat (N.getD i.toNat []) = N := set_same [] N i.toNat
    have h1 := e15b g W M m ws o C i (ws.getD i.toNat []).length i0 (by omega) hwsl rfl hwj (fun N' q' => ih (i + 1) N' (by omega) (by omega) (by rw [hit]; exact q')) (ws.getD i.toNat []).length 0 N (by omega) (by omega) q
    rw [← hlj] at h1
    refine gets_vc (flag [2000073,2000082,2000092,2000115] spNe) (fun k => [[1,3,4,6,54,55],[1,3,4,6,65,66],[1,3,4,6,9,65,66,74,75],[1,3,4,6,107,108],[1,3,4,6,11,107,108,115,116,117]].getD k []) (fun k => if k = 4 then [⟨9999, 0, .unit⟩] else []) 400 (.fork (.hd 2) (.hd 3)) (V := vq44 g W M m ws o C i N) hmG (fun G R => by kernel_rfl) ?_
    unfold vq44
    try dsimp only
    simp only [Ty.dflt, Nat.zero_add, List.take_length, hset]
    simp (disch := omega) only [wrG, sameK_iff, true_and, and_true, decide_eq_true_eq, decide_eq_false_iff_not, ne_eq, not_false_eq_true, Bool.false_eq_true, Bool.true_eq_false, false_implies, true_implies, Ty.dflt, reduceCtorEq, beq_iff_eq, bne_iff_ne, beq_eq_false_iff_ne, bne_eq_false_iff_eq, Bool.not_eq_true, Bool.not_eq_eq_eq_not, Bool.not_true, Bool.not_false, gt_iff_lt, ge_iff_le, Int.not_lt, Int.not_le]
    repeat' (first | with_reducible refine And.intro ?_ ?_ | intro _)
    all_goals first | rfl | omega | assumption | trivial | exact roomI (by omega) | (exfalso; simp_all; done) | (exfalso; omega) | skip
def vq45 (g : Gr) (W : List (List Int)) (M : List Nat) (m : List Nat) (ws : List (List Int)) (o : Bool) (N : List (List Int)) (i : Int) (C : List Int) (G : Nat → St → Prop) (R : D × List (Option Row) × List Row → Prop) : Prop := let yy0 := (Row.box 68 [D.v (Value.int IntKind.i64 g.h), D.v (Value.int IntKind.i64 g.w), D.sl false false Ty.bool g.B, D.sl false false Ty.bool g.R, D.sl false false Ty.bool g.L, D.sl false false (Ty.int IntKind.i64).sl W, D.sl false false (Ty.int IntKind.u64) (Mi M)]); let yy1 := (Row.box 68 [D.v (Value.int IntKind.i64 g.h), D.v (Value.int IntKind.i64 g.w), D.own 4 0 g.B.length none, D.own 5 0 g.R.length none, D.own 6 0 g.L.length none, D.own 7 0 W.length none, D.own 8 0 M.length none]); let yy2 := (Row.box 71 [D.sl false false (Ty.int IntKind.u64) (Mi m), D.sl false false (Ty.int IntKind.i64).sl ws, D.v (Value.bool o)]); let yy3 := (Ty.int IntKind.i64); let yy4 := (Row.box 71 [D.own 9 0 m.length none, D.own 10 0 ws.length none, D.v (Value.bool o)]); (decide (i < (↑m.length : Int)) = true → (0 : Int) ≤ i ∧ i < (↑m.length : Int) ∧ 0 + i.toNat < C.length ∧ SameK (KK n15 0) (KK n15 0) ∧ G 0 (stOf 140 [1, 3, 4, 6, 54, 55] [D.ptr 0 0 0, D.ptr 1 0 0, D.ptr 2 0 0, D.ptr 3 0 0, D.v (Value.int IntKind.i64 (↑m.length : Int)), D.v (Value.int IntKind.i64 (IntKind.i64.wrap (i + (1 : Int))))] [Slot.live yy0, Slot.live yy1, Slot.live yy4, Slot.live yy2, Slot.live (Row.data 4 Ty.bool g.B), Slot.live (Row.data 4 Ty.bool g.R), Slot.live (Row.data 4 Ty.bool g.L), Slot.live (Row.data 46 yy3.sl W), Slot.live (Row.data 80 (Ty.int IntKind.u64) (Mi M)), Slot.live (Row.data 80 (Ty.int IntKind.u64) (C.set (0 + i.toNat) (77 : Int))), Slot.live (Row.nest (NK.mk 46 yy3.sl 0 3 yy3) N none)])) ∧ (decide (i < (↑m.length : Int)) = false → SameK (KK n15 1) (KK n15 1) ∧ G 1 (stOf 140 [1, 3, 4, 6, 65, 66] [D.ptr 0 0 0, D.ptr 1 0 0, D.ptr 2 0 0, D.ptr 3 0 0, D.v (Value.int IntKind.i64 (↑ws.length : Int)), D.v (Value.int IntKind.i64 (0 : Int))] [Slot.live yy0, Slot.live yy1, Slot.live yy4, Slot.live yy2, Slot.live (Row.data 4 Ty.bool g.B), Slot.live (Row.data 4 Ty.bool g.R), Slot.live (Row.data 4 Ty.bool g.L), Slot.live (Row.data 46 yy3.sl W), Slot.live (Row.data 80 (Ty.int IntKind.u64) (Mi M)), Slot.live (Row.data 80 (Ty.int IntKind.u64) C), Slot.live (Row.nest (NK.mk 46 yy3.sl 0 3 yy3) N none)]))
theorem e15 (g : Gr) (W : List (List Int)) (M : List Nat) (m : List Nat) (ws : List (List Int)) (o : Bool) (N : List (List Int)) (hm : m.length ≤ 17592186044416) (hx : ∀ C : List Int, C.length = m.length → GetsK Try.prog Try.f15.results.toList [none] (KK n15) 0 (.v (.bool true), [], []) 1 (stOf 140 [1,3,4,6,65,66] [.ptr 0 0 0, .ptr 1 0 0, .ptr 2 0 0, .ptr 3 0 0, .v (.int .i64 ws.length), .v (.int .i64 0)] [.live (.box 68 [.v (.int .i64 g.h), .v (.int .i64 g.w), .sl false false .bool g.B, .sl false false .bool g.R, .sl false false .bool g.L, slW W, slU M]), .live (.box 68 [.v (.int .i64 g.h), .v (.int .i64 g.w), .own 4 0 g.B.length none, .own 5 0 g.R.length none, .own 6 0 g.L.length none, .own 7 0 W.length none, .own 8 0 M.length none]), .live (.box 71 [.own 9 0 m.length none, .own 10 0 ws.length none, .v (.bool o)]), .live (.box 71 [slU m, slW ws, .v (.bool o)]), .live (.data 4 .bool g.B), .live (.data 4 .bool g.R), .live (.data 4 .bool g.L), .live (.data 46 WT W), .live (.data 80 (.int .u64) (Mi M)), .live (.data 80 (.int .u64) C), .live (.nest kW N none)])) (z : Nat) : ∀ (i : Int) (C : List Int), 0 ≤ i → i + z = m.length → C.length = m.length → GetsK Try.prog Try.f15.results.toList [none] (KK n15) 0 (.v (.bool true), [], []) 0 (stOf 140 [1,3,4,6,54,55] [.ptr 0 0 0, .ptr 1 0 0, .ptr 2 0 0, .ptr 3 0 0, .v (.int .i64 m.length), .v (.int .i64 i)] [.live (.box 68 [.v (.int .i64 g.h), .v (.int .i64 g.w), .sl false false .bool g.B, .sl false false .bool g.R, .sl false false .bool g.L, slW W, slU M]), .live (.box 68 [.v (.int .i64 g.h), .v (.int .i64 g.w), .own 4 0 g.B.length none, .own 5 0 g.R.length none, .own 6 0 g.L.length none, .own 7 0 W.length none, .own 8 0 M.length none]), .live (.box 71 [.own 9 0 m.length none, .own 10 0 ws.length none, .v (.bool o)]), .live (.box 71 [slU m, slW ws, .v (.bool o)]), .live (.data 4 .bool g.B), .live (.data 4 .bool g.R), .live (.data 4 .bool g.L), .live (.data 46 WT W), .live (.data 80 (.int .u64) (Mi M)), .live (.data 80 (.int .u64) C), .live (.nest kW N none)]) := by
  induction z with
  | zero =>
    intro i C i0 hi hC
    have h1 := hx C hC
    refine gets_vc (flag [2000073,2000082,2000092,2000115] spNe) (fun k => [[1,3,4,6,54,55],[1,3,4,6,65,66],[1,3,4,6,9,65,66,74,75],[1,3,4,6,107,108],[1,3,4,6,11,107,108,115,116,117]].getD k []) (fun k => if k = 4 then [⟨9999, 0, .unit⟩] else []) 400 (.fork (.hd 0) (.hd 1)) (V := vq45 g W M m ws o N i C) hmG (fun G R => by kernel_rfl) ?_
    unfold vq45
    try dsimp only
    simp (disch := omega) only [wrG, sameK_iff, true_and, and_true, decide_eq_true_eq, decide_eq_false_iff_not, ne_eq, not_false_eq_true, Bool.false_eq_true, Bool.true_eq_false, false_implies, true_implies, Ty.dflt, reduceCtorEq, beq_iff_eq, bne_iff_ne, beq_eq_false_iff_ne, bne_eq_false_iff_eq, Bool.not_eq_true, Bool.not_eq_eq_eq_not, Bool.not_true, Bool.not_false, gt_iff_lt, ge_iff_le, Int.not_lt, Int.not_le]
    repeat' (first | with_reducible refine And.intro ?_ ?_ | intro _)
    all_goals first | rfl | omega | assumption | trivial | exact roomI (by omega) | (exfalso; simp_all; done) | (exfalso; omega) | skip
  | succ z ih =>
    intro i C i0 hi hC
    have hk1 : IntKind.i64.wrap (i + 1) = i + 1 := wrG (by omega) (by omega)
    have h1 := ih (i + 1) (C.set i.toNat 77) (by omega) (by omega) (by rw [List.length_set]; exact hC)
    refine gets_vc (flag [2000073,2000082,2000092,2000115] spNe) (fun k => [[1,3,4,6,54,55],[1,3,4,6,65,66],[1,3,4,6,9,65,66,74,75],[1,3,4,6,107,108],[1,3,4,6,11,107,108,115,116,117]].getD k []) (fun k => if k = 4 then [⟨9999, 0, .unit⟩] else []) 400 (.fork (.hd 0) (.hd 1)) (V := vq45 g W M m ws o N i C) hmG (fun G R => by kernel_rfl) ?_
    unfold vq45
    try dsimp only
    simp only [hk1, Nat.zero_add]
    simp (disch := omega) only [wrG, sameK_iff, true_and, and_true, decide_eq_true_eq, decide_eq_false_iff_not, ne_eq, not_false_eq_true, Bool.false_eq_true, Bool.true_eq_false, false_implies, true_implies, Ty.dflt, reduceCtorEq, beq_iff_eq, bne_iff_ne, beq_eq_false_iff_ne, bne_eq_false_iff_eq, Bool.not_eq_true, Bool.not_eq_eq_eq_not, Bool.not_true, Bool.not_false, gt_iff_lt, ge_iff_le, Int.not_lt, Int.not_le]
    repeat' (first | with_reducible refine And.intro ?_ ?_ | intro _)
    all_goals first | rfl | omega | assumption | trivial | exact roomI (by omega) | (exfalso; simp_all; done) | (exfalso; omega) | skip
end Go.Proofs.YtnakmganodkliaaAm
set_option maxRecDepth 100000
namespace Go.Proofs.YtnakmganodkliaaAm
open Go
theorem narW_few {p : Pr} (hM : Smalls p.M) : (narW p).length ≤ 1000 ∧ (narM p).length ≤ 1000 ∧ ∀ j : Nat, j < (narW p).length → ((narW p).getD j []).length ≤ 1000 := by
  by_cases h : checkP p = 0
  · have hl := narW_len h
    have hm := narM_len _ h
    have hS := slots_900 (checkP_zero h).1
    have F := fine_of (g := p.g) (W := p.W) (M := p.M) h hM
    have hw := hw_in (chk0.1 (checkP_zero h).1).1 (chk0.1 (checkP_zero h).1).2.1
    have h4 := (checkP_zero h).2.2.2
    exact ⟨by omega, by omega, fun j hj => (slot18 h hM (by omega)).few⟩
  · rw [narW_no h, narM_no h]
    exact ⟨by simp, by simp, fun j hj => by simp at hj⟩
theorem d15 (g : Gr) (W : List (List Int)) (M : List Nat) (F : (Pr.mk g W M).fits) : Con Try.prog 15 [] [.agg [.v (.int .i64 g.h), .v (.int .i64 g.w), .sl false false .bool g.B, .sl false false .bool g.R, .sl false false .bool g.L, slW W, slU M]] (.v (.bool true)) [] [] := by
  refine con_vc (how := [none]) (c := n15) (K := (KK n15)) (flag [2000073,2000082,2000092,2000115] spNe) (fun k => [[1,3,4,6,54,55],[1,3,4,6,65,66],[1,3,4,6,9,65,66,74,75],[1,3,4,6,107,108],[1,3,4,6,11,107,108,115,116,117]].getD k []) (fun k => if k = 4 then [⟨9999, 0, .unit⟩] else []) 400 (.fork .stop (.fork (.t (.t (.t .stop))) (.fork (.t (.t .stop)) (.fork (.t .stop) (.fork .stop (.hd 0)))))) (V := fun G R => let yy0 := (Pr.mk (Pr.mk g W (Nt (Mi M))).g (List.take (Pr.mk g W (Nt (Mi M))).W.length (List.drop 0 (Pr.mk g W (Nt (Mi M))).W)) (Nt (List.take (Pr.mk g W (Nt (Mi M))).M.length (List.drop 0 (Mi (Pr.mk g W (Nt (Mi M))).M))))); let yy1 := (Pr.mk g W (Nt (Mi M))); let yy2 := (List.take (narM yy0).length (List.drop 0 (Mi (narM yy0))) = Mi (narM yy1) ∧ List.take (narW yy0).length (List.drop 0 (narW yy0)) = narW yy1 ∧ narO yy0 = narO yy1); let yy3 := (Ty.int IntKind.i64); let yy4 := (Ty.int IntKind.u64); let yy5 := (Value.int IntKind.i64 yy1.g.h); let yy6 := (Value.int IntKind.i64 yy1.g.w); let yy7 := (yy0.g = yy1.g ∧ yy0.M = yy1.M ∧ yy0.W = yy1.W); let yy8 := (checkP yy0 != checkP yy1); Con Try.prog 57 [] [] (D.v (Value.bool true)) [] [] ∧ ((!true) = true → R (D.v (Value.bool false), [], [])) ∧ ((!true) = false → Con Try.prog 58 [] [D.agg [D.v yy5, D.v yy6, D.sl false false Ty.bool yy1.g.B, D.sl false false Ty.bool yy1.g.R, D.sl false false Ty.bool yy1.g.L, D.sl false false yy3.sl yy1.W, D.sl false false yy4 (Mi yy1.M)]] (D.agg [D.v yy5, D.v yy6, D.own 0 0 yy1.g.B.length none, D.own 1 0 yy1.g.R.length none, D.own 2 0 yy1.g.L.length none, D.own 3 0 yy1.W.length none, D.own 4 0 yy1.M.length none]) [] [Row.data 4 Ty.bool yy1.g.B, Row.data 4 Ty.bool yy1.g.R, Row.data 4 Ty.bool yy1.g.L, Row.data 46 yy3.sl yy1.W, Row.data 80 yy4 (Mi yy1.M)] ∧ Value.int IntKind.i64 g.h = Value.int IntKind.i64 yy1.g.h ∧ Value.int IntKind.i64 g.w = Value.int IntKind.i64 yy1.g.w ∧ g.B = yy1.g.B ∧ g.R = yy1.g.R ∧ g.L = yy1.g.L ∧ W = yy1.W ∧ Mi M = Mi yy1.M ∧ Con Try.prog 59 [] [D.agg [D.v (Value.int IntKind.i64 yy0.g.h), D.v (Value.int IntKind.i64 yy0.g.w), D.sl false false Ty.bool yy0.g.B, D.sl false false Ty.bool yy0.g.R, D.sl false false Ty.bool yy0.g.L, D.sl false false yy3.sl yy0.W, D.sl false false yy4 (Mi yy0.M)]] (D.tup [D.agg [D.own 0 0 (narM yy0).length none, D.own 1 0 (narW yy0).length none, D.v (Value.bool (narO yy0))], D.v (Value.int IntKind.i64 (checkP yy0))]) [] [Row.data 80 yy4 (Mi (narM yy0)), Row.nest (NK.mk 46 yy3.sl 0 3 yy3) (narW yy0) none] ∧ Value.int IntKind.i64 yy1.g.h = Value.int IntKind.i64 yy0.g.h ∧ Value.int IntKind.i64 yy1.g.w = Value.int IntKind.i64 yy0.g.w ∧ List.take yy1.g.B.length (List.drop 0 yy1.g.B) = yy0.g.B ∧ List.take yy1.g.R.length (List.drop 0 yy1.g.R) = yy0.g.R ∧ List.take yy1.g.L.length (List.drop 0 yy1.g.L) = yy0.g.L ∧ List.take yy1.W.length (List.drop 0 yy1.W) = yy0.W ∧ List.take yy1.M.length (List.drop 0 (Mi yy1.M)) = Mi yy0.M ∧ Con Try.prog 60 [] [D.agg [D.v yy5, D.v yy6, D.sl false false Ty.bool yy1.g.B, D.sl false false Ty.bool yy1.g.R, D.sl false false Ty.bool yy1.g.L, D.sl false false yy3.sl yy1.W, D.sl false false yy4 (Mi yy1.M)]] (D.tup [D.agg [D.sl false false yy4 (Mi (narM yy1)), D.sl false false yy3.sl (narW yy1), D.v (Value.bool (narO yy1))], D.v (Value.int IntKind.i64 (checkP yy1))]) [] [] ∧ Value.int IntKind.i64 g.h = Value.int IntKind.i64 yy1.g.h ∧ Value.int IntKind.i64 g.w = Value.int IntKind.i64 yy1.g.w ∧ g.B = yy1.g.B ∧ g.R = yy1.g.R ∧ g.L = yy1.g.L ∧ W = yy1.W ∧ Mi M = Mi yy1.M ∧ (yy8 = true → true = true ∧ true = true ∧ true = true ∧ R (D.v (Value.bool false), [], [])) ∧ (yy8 = false → Con Try.prog 61 [] [D.agg [D.sl false false yy4 (List.take (narM yy0).length (List.drop 0 (Mi (narM yy0)))), D.sl false false yy3.sl (List.take (narW yy0).length (List.drop 0 (narW yy0))), D.v (Value.bool (narO yy0))], D.agg [D.sl false false yy4 (Mi (narM yy1)), D.sl false false yy3.sl (narW yy1), D.v (Value.bool (narO yy1))]] (D.v (Value.bool (decide yy2))) [] [] ∧ List.take (narM yy0).length (List.drop 0 (Mi (narM yy0))) = List.take (narM yy0).length (List.drop 0 (Mi (narM yy0))) ∧ List.take (narW yy0).length (List.drop 0 (narW yy0)) = List.take (narW yy0).length (List.drop 0 (narW yy0)) ∧ Value.bool (narO yy0) = Value.bool (narO yy0) ∧ Mi (narM yy1) = Mi (narM yy1) ∧ narW yy1 = narW yy1 ∧ Value.bool (narO yy1) = Value.bool (narO yy1) ∧ ((!decide yy2) = true → true = true ∧ true = true ∧ R (D.v (Value.bool false), [], [])) ∧ ((!decide yy2) = false → Con Try.prog 62 [] [D.agg [D.v (Value.int IntKind.i64 yy0.g.h), D.v (Value.int IntKind.i64 yy0.g.w), D.sl false false Ty.bool yy0.g.B, D.sl false false Ty.bool yy0.g.R, D.sl false false Ty.bool yy0.g.L, D.sl false false yy3.sl yy0.W, D.sl false false yy4 (Mi yy0.M)]] (D.v (Value.int IntKind.i64 (checkP yy0))) [] [] ∧ Value.int IntKind.i64 yy1.g.h = Value.int IntKind.i64 yy0.g.h ∧ Value.int IntKind.i64 yy1.g.w = Value.int IntKind.i64 yy0.g.w ∧ List.take yy1.g.B.length (List.drop 0 yy1.g.B) = yy0.g.B ∧ List.take yy1.g.R.length (List.drop 0 yy1.g.R) = yy0.g.R ∧ List.take yy1.g.L.length (List.drop 0 yy1.g.L) = yy0.g.L ∧ List.take yy1.W.length (List.drop 0 yy1.W) = yy0.W ∧ List.take yy1.M.length (List.drop 0 (Mi yy1.M)) = Mi yy0.M ∧ Con Try.prog 63 [] [D.agg [D.v yy5, D.v yy6, D.sl false false Ty.bool yy1.g.B, D.sl false false Ty.bool yy1.g.R, D.sl false false Ty.bool yy1.g.L, D.sl false false yy3.sl yy1.W, D.sl false false yy4 (Mi yy1.M)]] (D.v (Value.int IntKind.i64 (checkP yy1))) [] [] ∧ Value.int IntKind.i64 g.h = Value.int IntKind.i64 yy1.g.h ∧ Value.int IntKind.i64 g.w = Value.int IntKind.i64 yy1.g.w ∧ g.B = yy1.g.B ∧ g.R = yy1.g.R ∧ g.L = yy1.g.L ∧ W = yy1.W ∧ Mi M = Mi yy1.M ∧ (yy8 = true → true = true ∧ R (D.v (Value.bool false), [], [])) ∧ (yy8 = false → Con Try.prog 64 [] [D.agg [D.v (Value.int IntKind.i64 yy0.g.h), D.v (Value.int IntKind.i64 yy0.g.w), D.sl false false Ty.bool yy0.g.B, D.sl false false Ty.bool yy0.g.R, D.sl false false Ty.bool yy0.g.L, D.sl false false yy3.sl yy0.W, D.sl false false yy4 (Mi yy0.M)], D.agg [D.v yy5, D.v yy6, D.sl false false Ty.bool yy1.g.B, D.sl false false Ty.bool yy1.g.R, D.sl false false Ty.bool yy1.g.L, D.sl false false yy3.sl yy1.W, D.sl false false yy4 (Mi yy1.M)]] (D.v (Value.bool (decide yy7))) [] [] ∧ Value.int IntKind.i64 yy1.g.h = Value.int IntKind.i64 yy0.g.h ∧ Value.int IntKind.i64 yy1.g.w = Value.int IntKind.i64 yy0.g.w ∧ List.take yy1.g.B.length (List.drop 0 yy1.g.B) = yy0.g.B ∧ List.take yy1.g.R.length (List.drop 0 yy1.g.R) = yy0.g.R ∧ List.take yy1.g.L.length (List.drop 0 yy1.g.L) = yy0.g.L ∧ List.take yy1.W.length (List.drop 0 yy1.W) = yy0.W ∧ List.take yy1.M.length (List.drop 0 (Mi yy1.M)) = Mi yy0.M ∧ Value.int IntKind.i64 g.h = Value.int IntKind.i64 yy1.g.h ∧ Value.int IntKind.i64 g.w = Value.int IntKind.i64 yy1.g.w ∧ g.B = yy1.g.B ∧ g.R = yy1.g.R ∧ g.L = yy1.g.L ∧ W = yy1.W ∧ Mi M = Mi yy1.M ∧ ((!decide yy7) = true → R (D.v (Value.bool false), [], [])) ∧ ((!decide yy7) = false → SameK (KK n15 0) (KK n15 0) ∧ G 0 (stOf 140 [1, 3, 4, 6, 54, 55] [D.ptr 0 0 0, D.ptr 1 0 0, D.ptr 2 0 0, D.ptr 3 0 0, D.v (Value.int IntKind.i64 (↑(narM yy0).length : Int)), D.v (Value.int IntKind.i64 (0 : Int))] [Slot.live (Row.box 68 [D.v (Value.int IntKind.i64 g.h), D.v (Value.int IntKind.i64 g.w), D.sl false false Ty.bool g.B, D.sl false false Ty.bool g.R, D.sl false false Ty.bool g.L, D.sl false false yy3.sl W, D.sl false false yy4 (Mi M)]), Slot.live (Row.box 68 [D.v yy5, D.v yy6, D.own 4 0 yy1.g.B.length none, D.own 5 0 yy1.g.R.length none, D.own 6 0 yy1.g.L.length none, D.own 7 0 yy1.W.length none, D.own 8 0 yy1.M.length none]), Slot.live (Row.box 71 [D.own 9 0 (narM yy0).length none, D.own 10 0 (narW yy0).length none, D.v (Value.bool (narO yy0))]), Slot.live (Row.box 71 [D.sl false false yy4 (Mi (narM yy1)), D.sl false false yy3.sl (narW yy1), D.v (Value.bool (narO yy1))]), Slot.live (Row.data 4 Ty.bool yy1.g.B), Slot.live (Row.data 4 Ty.bool yy1.g.R), Slot.live (Row.data 4 Ty.bool yy1.g.L), Slot.live (Row.data 46 yy3.sl yy1.W), Slot.live (Row.data 80 yy4 (Mi yy1.M)), Slot.live (Row.data 80 yy4 (Mi (narM yy0))), Slot.live (Row.nest (NK.mk 46 yy3.sl 0 3 yy3) (narW yy0) none)]))))))) hmG Try.func15 (by kernel_rfl) (by kernel_rfl) (fun G R => by kernel_rfl) ?_
  try dsimp only
  try dsimp only
  have c57 := d57
  have hW1 := F.W
  have hw1 := F.w
  have hM1 := F.M
  simp only at hW1 hw1 hM1
  have c58 := d58 g W M F.g hW1 hw1 hM1
  have c59 := d59 g W M F.small
  have c60 := d60s g W M F.small
  have c62 := d62 g W M
  have c63 := d63 g W M
  have hf := narW_few (p := ⟨g, W, M⟩) F.small
  have hww : ∀ w ∈ narW ⟨g, W, M⟩, w.length ≤ 17592186044416 := by
    intro w hw
    obtain ⟨j, hj, e⟩ := List.getElem_of_mem hw
    have := hf.2.2 j hj
    rw [List.getD_eq_getElem?_getD, List.getElem?_eq_getElem hj, e] at this
    simp only [Option.getD_some] at this
    omega
  have c61 := d61 (Mi (narM ⟨g, W, M⟩)) (Mi (narM ⟨g, W, M⟩)) (narW ⟨g, W, M⟩) (narW ⟨g, W, M⟩) (narO ⟨g, W, M⟩) (narO ⟨g, W, M⟩) (by rw [Mi_len]; omega) (by omega) hww
  have c64 := d64 g W M g W M (fits_small F.g) hM1 hW1 hw1
  simp only [and_self, decide_true] at c61 c64
  have hxx := e15 g W M (narM ⟨g, W, M⟩) (narW ⟨g, W, M⟩) (narO ⟨g, W, M⟩) (narW ⟨g, W, M⟩) (by omega) (fun C hC => e15a g W M _ _ _ C hf.1 hf.2.2 (fun N q => e15c g W M _ _ _ C N F (by omega) hC hf.1 hf.2.2 q rfl rfl rfl (narW ⟨g, W, M⟩).length 0 (by omega) (by omega)) (narW ⟨g, W, M⟩).length 0 _ (by omega) (by omega) (neg_new _)) (narM ⟨g, W, M⟩).length 0 (Mi (narM ⟨g, W, M⟩)) (by omega) (by omega) (Mi_len _)
  have e0 : (checkP ⟨g, W, M⟩ != checkP ⟨g, W, M⟩) = false := by simp
  simp only [narVal] at c59 ⊢
  simp only [take_len, List.drop_zero, List.take_length, Mi_getD, Mi_len, Nt_Mi, Int.toNat_natCast, Mi_set, Nat.zero_add, Nat.sub_zero, List.length_set, take_one, takeSn, List.take_zero, List.nil_append, List.length_append, List.length_cons, List.length_nil, Mi_take]
  simp only [Nt_Mi, Mi_len, e0, and_self, decide_true, Bool.not_true, List.take_length]
  simp (disch := omega) only [wrG, sameK_iff, true_and, and_true, decide_eq_true_eq, decide_eq_false_iff_not, ne_eq, not_false_eq_true, Bool.false_eq_true, Bool.true_eq_false, false_implies, true_implies, Ty.dflt, reduceCtorEq, beq_iff_eq, bne_iff_ne, beq_eq_false_iff_ne, bne_eq_false_iff_eq, Bool.not_eq_true, Bool.not_eq_eq_eq_not, Bool.not_true, Bool.not_false, gt_iff_lt, ge_iff_le, Int.not_lt, Int.not_le]
  repeat' (first | with_reducible refine And.intro ?_ ?_ | intro _)
  all_goals first | rfl | omega | assumption | trivial | exact roomI (by omega) | (exfalso; simp_all; done) | (exfalso; omega) | skip
end Go.Proofs.YtnakmganodkliaaAm
