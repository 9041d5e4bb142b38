/- The contracts of package grid's functions and of its reference's, part four: steps, neighbours, comparisons. -/
import Derived.Test.YtnakmganodkliaaDoorGrC
set_option linter.unusedVariables false
set_option linter.unusedSimpArgs false
set_option maxRecDepth 100000
namespace Go.Proofs.YtnakmganodkliaaDoorAm
open Go

theorem d85 (g : Gr) (i y : Int) (ho : openF g i = true) (h0 : 0 ≤ y) (h4 : y < 4) : Con Tryd.prog 79 [] [g.d, .v (.int .i64 i), .v (.int .i64 y)] (.tup [.v (.int .i64 (stepIn g i y).1), .v (.bool (stepIn g i y).2)]) [] [] := by
  have : y = 0 ∨ y = 1 ∨ y = 2 ∨ y = 3 := by omega
  rcases this with rfl | rfl | rfl | rfl
  · exact d85_0 g i ho
  · exact d85_1 g i ho
  · exact d85_2 g i ho
  · exact d85_3 g i ho

theorem step_off {g : Gr} {i y : Int} (h : y < 0 ∨ 3 < y) : stepIn g i y = (0, false) := by
  unfold stepIn
  rw [if_neg (by omega), if_neg (by omega), if_neg (by omega), if_neg (by omega)]

theorem bytes3 : Tryd.prog.bytesOf 3 = 8 := by kernel_rfl
theorem bytes4 : Tryd.prog.bytesOf 4 = 1 := by kernel_rfl

theorem room3 {n : Nat} (h : n ≤ 1000000) : roomy Tryd.prog 3 n := by
  unfold roomy
  rw [bytes3]
  omega

theorem room4 {n : Nat} (h : n ≤ 140737488355328) : roomy Tryd.prog 4 n := by
  unfold roomy
  rw [bytes4]
  omega

theorem drop_eq {α : Type} [DecidableEq α] {A B : List α} {i : Int} (d : α) (h0 : 0 ≤ i) (h1 : i < A.length) (h2 : i < B.length) :
    decide (A.drop i.toNat = B.drop i.toNat) = (decide (A.getD i.toNat d = B.getD i.toNat d) && decide (A.drop (i + 1).toNat = B.drop (i + 1).toNat)) := by
  rw [drop_at d h0 h1, drop_at d h0 h2]
  simp [-List.getD_eq_getElem?_getD]

theorem drop_end {α : Type} [DecidableEq α] {A B : List α} {i : Int} (h1 : A.length ≤ i) (h2 : B.length ≤ i) : decide (A.drop i.toNat = B.drop i.toNat) = true := by
  rw [List.drop_eq_nil_of_le (by omega), List.drop_eq_nil_of_le (by omega)]
  simp

theorem d37 (g : Gr) (i y : Int)  : Con Tryd.prog 37 [] [g.d, .v (.int .i64 i), .v (.int .i64 y)] (.tup [.v (.int .i64 (stepF g i y).1), .v (.bool (stepF g i y).2)]) [] [] := by
  refine con_vc (how := [none, none]) (c := g37) (K := (KK g37)) (spG true) (fun _ => []) (fun _ => []) 400 (.fork (.t (.t .stop)) (.fork (.t .stop) (.fork .stop .stop))) (V := fun G R => (decide (y < (0 : Int)) = true → true = true ∧ true = true ∧ R (D.tup [D.v (Value.int IntKind.i64 (0 : Int)), D.v (Value.bool false)], [], [])) ∧ (decide (y < (0 : Int)) = false → (decide (y > (3 : Int)) = true → true = true ∧ R (D.tup [D.v (Value.int IntKind.i64 (0 : Int)), D.v (Value.bool false)], [], [])) ∧ (decide (y > (3 : Int)) = false → Con Tryd.prog 78 [] [D.agg [D.v (Value.int IntKind.i64 g.h), D.v (Value.int IntKind.i64 g.w), D.sl false false Ty.bool g.B, D.sl false false Ty.bool g.R, D.sl false false Ty.bool g.L], D.v (Value.int IntKind.i64 i)] (D.v (Value.bool (openF g i))) [] [] ∧ Value.int IntKind.i64 g.h = Value.int IntKind.i64 g.h ∧ Value.int IntKind.i64 g.w = Value.int IntKind.i64 g.w ∧ g.B = g.B ∧ g.R = g.R ∧ g.L = g.L ∧ Value.int IntKind.i64 i = Value.int IntKind.i64 i ∧ ((!openF g i) = true → R (D.tup [D.v (Value.int IntKind.i64 (0 : Int)), D.v (Value.bool false)], [], [])) ∧ ((!openF g i) = false → Con Tryd.prog 79 [] [D.agg [D.v (Value.int IntKind.i64 g.h), D.v (Value.int IntKind.i64 g.w), D.sl false false Ty.bool g.B, D.sl false false Ty.bool g.R, D.sl false false Ty.bool g.L], D.v (Value.int IntKind.i64 i), D.v (Value.int IntKind.i64 y)] (D.tup [D.v (Value.int IntKind.i64 (stepIn g i y).fst), D.v (Value.bool (stepIn g i y).snd)]) [] [] ∧ Value.int IntKind.i64 g.h = Value.int IntKind.i64 g.h ∧ Value.int IntKind.i64 g.w = Value.int IntKind.i64 g.w ∧ g.B = g.B ∧ g.R = g.R ∧ g.L = g.L ∧ Value.int IntKind.i64 i = Value.int IntKind.i64 i ∧ Value.int IntKind.i64 y = Value.int IntKind.i64 y ∧ R (D.tup [D.v (Value.int IntKind.i64 (stepIn g i y).fst), D.v (Value.bool (stepIn g i y).snd)], [], []))))) hmG Tryd.func37 (by kernel_rfl) (by kernel_rfl) (fun G R => by kernel_rfl) ?_
  try dsimp only
  simp (disch := omega) only [wrG, sameK_iff, true_and, and_true, decide_eq_true_eq, decide_eq_false_iff_not, ne_eq, not_false_eq_true, Bool.false_eq_true, Bool.true_eq_false, false_implies, true_implies, Ty.dflt, reduceCtorEq, beq_iff_eq, bne_iff_ne, beq_eq_false_iff_ne, bne_eq_false_iff_eq, Bool.not_eq_true, Bool.not_eq_eq_eq_not, Bool.not_true, Bool.not_false, gt_iff_lt, ge_iff_le, Int.not_lt, Int.not_le]
  repeat' (first | with_reducible refine And.intro ?_ ?_ | intro _)
  all_goals first | rfl | exact d45 g i | (rw [stepF, step_off (by omega)]; simp; done) | (refine d85 g i y ?_ ?_ ?_ <;> first | assumption | omega) | (simp_all [stepF]; done) | skip
theorem d38_0 (g : Gr) (i : Int)  : Con Tryd.prog 117 [] [g.d, .v (.int .i64 i), .v (.int .i64 (0))] (.tup [.v (.int .i64 (stepF g i (0)).1), .v (.bool (stepF g i (0)).2)]) [] [] := by
  refine con_vc (how := [none, none]) (c := g38) (K := (KK g38)) (spG true) (fun _ => []) (fun _ => []) 400 (.fork .stop (.t (.fork (.fork (.fork (.t .stop) (.fork .stop .stop)) (.f (.f (.f (.f (.f (.f (.f (.f (.f (.fork (.t .stop) (.fork .stop .stop)))))))))))) (.f (.f (.f (.f (.f (.f (.f (.f (.f (.f (.fork (.t .stop) (.fork .stop .stop))))))))))))))) (V := fun G R => Con Tryd.prog 142 [] [D.agg [D.v (Value.int IntKind.i64 g.h), D.v (Value.int IntKind.i64 g.w), D.sl false false Ty.bool g.B, D.sl false false Ty.bool g.R, D.sl false false Ty.bool g.L], D.v (Value.int IntKind.i64 i)] (D.v (Value.bool (openF g i))) [] [] ∧ Value.int IntKind.i64 g.h = Value.int IntKind.i64 g.h ∧ Value.int IntKind.i64 g.w = Value.int IntKind.i64 g.w ∧ g.B = g.B ∧ g.R = g.R ∧ g.L = g.L ∧ Value.int IntKind.i64 i = Value.int IntKind.i64 i ∧ ((!openF g i) = true → R (D.tup [D.v (Value.int IntKind.i64 (0 : Int)), D.v (Value.bool false)], [], [])) ∧ ((!openF g i) = false → g.w ≠ (0 : Int) ∧ g.w ≠ (0 : Int) ∧ ((0 : Int) == (0 : Int)) = true ∧ (decide (i.tmod g.w < IntKind.i64.wrap (g.w - (1 : Int))) = true → (0 : Int) ≤ i ∧ i < (↑g.R.length : Int) ∧ ((!g.R.getD i.toNat Ty.bool.dflt) = true → (decide (IntKind.i64.wrap (i + (1 : Int)) < (0 : Int)) = true → true = true ∧ R (D.tup [D.v (Value.int IntKind.i64 (0 : Int)), D.v (Value.bool false)], [], [])) ∧ (decide (IntKind.i64.wrap (i + (1 : Int)) < (0 : Int)) = false → (0 : Int) ≤ IntKind.i64.wrap (i + (1 : Int)) ∧ IntKind.i64.wrap (i + (1 : Int)) < (↑g.B.length : Int) ∧ (g.B.getD (IntKind.i64.wrap (i + (1 : Int))).toNat Ty.bool.dflt = true → R (D.tup [D.v (Value.int IntKind.i64 (0 : Int)), D.v (Value.bool false)], [], [])) ∧ (g.B.getD (IntKind.i64.wrap (i + (1 : Int))).toNat Ty.bool.dflt = false → R (D.tup [D.v (Value.int IntKind.i64 (IntKind.i64.wrap (i + (1 : Int)))), D.v (Value.bool true)], [], [])))) ∧ ((!g.R.getD i.toNat Ty.bool.dflt) = false → ((0 : Int) == (1 : Int)) = false ∧ false = false ∧ false = false ∧ ((0 : Int) == (2 : Int)) = false ∧ false = false ∧ false = false ∧ ((0 : Int) == (3 : Int)) = false ∧ false = false ∧ false = false ∧ (decide ((-1 : Int) < (0 : Int)) = true → true = true ∧ R (D.tup [D.v (Value.int IntKind.i64 (0 : Int)), D.v (Value.bool false)], [], [])) ∧ (decide ((-1 : Int) < (0 : Int)) = false → (0 : Int) ≤ (-1 : Int) ∧ (-1 : Int) < (↑g.B.length : Int) ∧ (g.B.getD 0 Ty.bool.dflt = true → R (D.tup [D.v (Value.int IntKind.i64 (0 : Int)), D.v (Value.bool false)], [], [])) ∧ (g.B.getD 0 Ty.bool.dflt = false → R (D.tup [D.v (Value.int IntKind.i64 (-1 : Int)), D.v (Value.bool true)], [], []))))) ∧ (decide (i.tmod g.w < IntKind.i64.wrap (g.w - (1 : Int))) = false → false = false ∧ ((0 : Int) == (1 : Int)) = false ∧ false = false ∧ false = false ∧ ((0 : Int) == (2 : Int)) = false ∧ false = false ∧ false = false ∧ ((0 : Int) == (3 : Int)) = false ∧ false = false ∧ false = false ∧ (decide ((-1 : Int) < (0 : Int)) = true → true = true ∧ R (D.tup [D.v (Value.int IntKind.i64 (0 : Int)), D.v (Value.bool false)], [], [])) ∧ (decide ((-1 : Int) < (0 : Int)) = false → (0 : Int) ≤ (-1 : Int) ∧ (-1 : Int) < (↑g.B.length : Int) ∧ (g.B.getD 0 Ty.bool.dflt = true → R (D.tup [D.v (Value.int IntKind.i64 (0 : Int)), D.v (Value.bool false)], [], [])) ∧ (g.B.getD 0 Ty.bool.dflt = false → R (D.tup [D.v (Value.int IntKind.i64 (-1 : Int)), D.v (Value.bool true)], [], [])))))) hmG Tryd.func117 (by kernel_rfl) (by kernel_rfl) (fun G R => by kernel_rfl) ?_
  try dsimp only
  rcases Bool.eq_false_or_eq_true (openF g i) with ho | ho
  rotate_left
  · simp [ho, stepF]
    have := d46 g i; rwa [ho] at this
  · obtain ⟨hc, i0, i1, hb⟩ := open_in ho
    obtain ⟨h1, w1, sz, _⟩ := chk0.1 hc
    obtain ⟨s1, s2, s3⟩ := size3 sz
    have hw := hw_in h1 w1
    have hh := side_iff.1 h1
    have ww := side_iff.1 w1
    have e1 : i.tmod g.w = i % g.w := Int.tmod_eq_emod_of_nonneg i0
    have e2 : i.tdiv g.w = i / g.w := Int.tdiv_eq_ediv_of_nonneg i0
    have rr := row_in ww.1 i0 i1
    have r4 := right_in ww.1 i0 i1
    have r5 := below_in ww.1 i0 i1
    have r6 : 0 ≤ i / g.w * g.w := Int.mul_nonneg rr.1 (by omega)
    have r7 : 1 ≤ i / g.w → g.w ≤ i / g.w * g.w := fun h => by have := Int.mul_le_mul_of_nonneg_right h (show 0 ≤ g.w by omega); omega
    simp only [stepF, ho, if_true]
    simp (disch := omega) only [e1, e2, ho, wrG, sameK_iff, true_and, and_true, decide_eq_true_eq, decide_eq_false_iff_not, ne_eq, not_false_eq_true, Bool.false_eq_true, Bool.true_eq_false, false_implies, true_implies, Ty.dflt, reduceCtorEq, beq_iff_eq, bne_iff_ne, beq_eq_false_iff_ne, bne_eq_false_iff_eq, Bool.not_eq_true, Bool.not_eq_eq_eq_not, Bool.not_true, Bool.not_false, gt_iff_lt, ge_iff_le, Int.not_lt, Int.not_le]
    repeat' (first | with_reducible refine And.intro ?_ ?_ | intro _)
    all_goals first | rfl | omega | assumption | (have := d46 g i; rwa [ho] at this) | (have q : i % g.w < g.w - 1 := (by omega); simp [stepIn, stepTo, bAt, -List.getD_eq_getElem?_getD, -Int.pred_toNat, q, *]; done) | (have q : ¬ i % g.w < g.w - 1 := (by omega); simp [stepIn, stepTo, bAt, -List.getD_eq_getElem?_getD, -Int.pred_toNat, q, *]; done) | (have q : i / g.w < g.h - 1 := (by omega); simp [stepIn, stepTo, bAt, -List.getD_eq_getElem?_getD, -Int.pred_toNat, q, *]; done) | (have q : ¬ i / g.w < g.h - 1 := (by omega); simp [stepIn, stepTo, bAt, -List.getD_eq_getElem?_getD, -Int.pred_toNat, q, *]; done) | (have q : 0 < i % g.w := (by omega); simp [stepIn, stepTo, bAt, -List.getD_eq_getElem?_getD, -Int.pred_toNat, q, *]; done) | (have q : ¬ 0 < i % g.w := (by omega); simp [stepIn, stepTo, bAt, -List.getD_eq_getElem?_getD, -Int.pred_toNat, q, *]; done) | (have q : 0 < i / g.w := (by omega); simp [stepIn, stepTo, bAt, -List.getD_eq_getElem?_getD, -Int.pred_toNat, q, *]; done) | (have q : ¬ 0 < i / g.w := (by omega); simp [stepIn, stepTo, bAt, -List.getD_eq_getElem?_getD, -Int.pred_toNat, q, *]; done) | (simp [stepIn, stepTo, bAt, -List.getD_eq_getElem?_getD, -Int.pred_toNat, *]; done) | skip
theorem d38_1 (g : Gr) (i : Int)  : Con Tryd.prog 117 [] [g.d, .v (.int .i64 i), .v (.int .i64 (1))] (.tup [.v (.int .i64 (stepF g i (1)).1), .v (.bool (stepF g i (1)).2)]) [] [] := by
  refine con_vc (how := [none, none]) (c := g38) (K := (KK g38)) (spG true) (fun _ => []) (fun _ => []) 400 (.fork .stop (.f (.f (.f (.t (.fork (.fork (.fork (.t .stop) (.fork .stop .stop)) (.f (.f (.f (.f (.f (.f (.fork (.t .stop) (.fork .stop .stop))))))))) (.f (.f (.f (.f (.f (.f (.f (.fork (.t .stop) (.fork .stop .stop))))))))))))))) (V := fun G R => Con Tryd.prog 142 [] [D.agg [D.v (Value.int IntKind.i64 g.h), D.v (Value.int IntKind.i64 g.w), D.sl false false Ty.bool g.B, D.sl false false Ty.bool g.R, D.sl false false Ty.bool g.L], D.v (Value.int IntKind.i64 i)] (D.v (Value.bool (openF g i))) [] [] ∧ Value.int IntKind.i64 g.h = Value.int IntKind.i64 g.h ∧ Value.int IntKind.i64 g.w = Value.int IntKind.i64 g.w ∧ g.B = g.B ∧ g.R = g.R ∧ g.L = g.L ∧ Value.int IntKind.i64 i = Value.int IntKind.i64 i ∧ ((!openF g i) = true → R (D.tup [D.v (Value.int IntKind.i64 (0 : Int)), D.v (Value.bool false)], [], [])) ∧ ((!openF g i) = false → g.w ≠ (0 : Int) ∧ g.w ≠ (0 : Int) ∧ ((1 : Int) == (0 : Int)) = false ∧ false = false ∧ false = false ∧ ((1 : Int) == (1 : Int)) = true ∧ (decide (IntKind.i64.wrap (i.tdiv g.w) < IntKind.i64.wrap (g.h - (1 : Int))) = true → (0 : Int) ≤ i ∧ i < (↑g.L.length : Int) ∧ ((!g.L.getD i.toNat Ty.bool.dflt) = true → (decide (IntKind.i64.wrap (i + g.w) < (0 : Int)) = true → true = true ∧ R (D.tup [D.v (Value.int IntKind.i64 (0 : Int)), D.v (Value.bool false)], [], [])) ∧ (decide (IntKind.i64.wrap (i + g.w) < (0 : Int)) = false → (0 : Int) ≤ IntKind.i64.wrap (i + g.w) ∧ IntKind.i64.wrap (i + g.w) < (↑g.B.length : Int) ∧ (g.B.getD (IntKind.i64.wrap (i + g.w)).toNat Ty.bool.dflt = true → R (D.tup [D.v (Value.int IntKind.i64 (0 : Int)), D.v (Value.bool false)], [], [])) ∧ (g.B.getD (IntKind.i64.wrap (i + g.w)).toNat Ty.bool.dflt = false → R (D.tup [D.v (Value.int IntKind.i64 (IntKind.i64.wrap (i + g.w))), D.v (Value.bool true)], [], [])))) ∧ ((!g.L.getD i.toNat Ty.bool.dflt) = false → ((1 : Int) == (2 : Int)) = false ∧ false = false ∧ false = false ∧ ((1 : Int) == (3 : Int)) = false ∧ false = false ∧ false = false ∧ (decide ((-1 : Int) < (0 : Int)) = true → true = true ∧ R (D.tup [D.v (Value.int IntKind.i64 (0 : Int)), D.v (Value.bool false)], [], [])) ∧ (decide ((-1 : Int) < (0 : Int)) = false → (0 : Int) ≤ (-1 : Int) ∧ (-1 : Int) < (↑g.B.length : Int) ∧ (g.B.getD 0 Ty.bool.dflt = true → R (D.tup [D.v (Value.int IntKind.i64 (0 : Int)), D.v (Value.bool false)], [], [])) ∧ (g.B.getD 0 Ty.bool.dflt = false → R (D.tup [D.v (Value.int IntKind.i64 (-1 : Int)), D.v (Value.bool true)], [], []))))) ∧ (decide (IntKind.i64.wrap (i.tdiv g.w) < IntKind.i64.wrap (g.h - (1 : Int))) = false → false = false ∧ ((1 : Int) == (2 : Int)) = false ∧ false = false ∧ false = false ∧ ((1 : Int) == (3 : Int)) = false ∧ false = false ∧ false = false ∧ (decide ((-1 : Int) < (0 : Int)) = true → true = true ∧ R (D.tup [D.v (Value.int IntKind.i64 (0 : Int)), D.v (Value.bool false)], [], [])) ∧ (decide ((-1 : Int) < (0 : Int)) = false → (0 : Int) ≤ (-1 : Int) ∧ (-1 : Int) < (↑g.B.length : Int) ∧ (g.B.getD 0 Ty.bool.dflt = true → R (D.tup [D.v (Value.int IntKind.i64 (0 : Int)), D.v (Value.bool false)], [], [])) ∧ (g.B.getD 0 Ty.bool.dflt = false → R (D.tup [D.v (Value.int IntKind.i64 (-1 : Int)), D.v (Value.bool true)], [], [])))))) hmG Tryd.func117 (by kernel_rfl) (by kernel_rfl) (fun G R => by kernel_rfl) ?_
  try dsimp only
  rcases Bool.eq_false_or_eq_true (openF g i) with ho | ho
  rotate_left
  · simp [ho, stepF]
    have := d46 g i; rwa [ho] at this
  · obtain ⟨hc, i0, i1, hb⟩ := open_in ho
    obtain ⟨h1, w1, sz, _⟩ := chk0.1 hc
    obtain ⟨s1, s2, s3⟩ := size3 sz
    have hw := hw_in h1 w1
    have hh := side_iff.1 h1
    have ww := side_iff.1 w1
    have e1 : i.tmod g.w = i % g.w := Int.tmod_eq_emod_of_nonneg i0
    have e2 : i.tdiv g.w = i / g.w := Int.tdiv_eq_ediv_of_nonneg i0
    have rr := row_in ww.1 i0 i1
    have r4 := right_in ww.1 i0 i1
    have r5 := below_in ww.1 i0 i1
    have r6 : 0 ≤ i / g.w * g.w := Int.mul_nonneg rr.1 (by omega)
    have r7 : 1 ≤ i / g.w → g.w ≤ i / g.w * g.w := fun h => by have := Int.mul_le_mul_of_nonneg_right h (show 0 ≤ g.w by omega); omega
    simp only [stepF, ho, if_true]
    simp (disch := omega) only [e1, e2, ho, wrG, sameK_iff, true_and, and_true, decide_eq_true_eq, decide_eq_false_iff_not, ne_eq, not_false_eq_true, Bool.false_eq_true, Bool.true_eq_false, false_implies, true_implies, Ty.dflt, reduceCtorEq, beq_iff_eq, bne_iff_ne, beq_eq_false_iff_ne, bne_eq_false_iff_eq, Bool.not_eq_true, Bool.not_eq_eq_eq_not, Bool.not_true, Bool.not_false, gt_iff_lt, ge_iff_le, Int.not_lt, Int.not_le]
    repeat' (first | with_reducible refine And.intro ?_ ?_ | intro _)
    all_goals first | rfl | omega | assumption | (have := d46 g i; rwa [ho] at this) | (have q : i % g.w < g.w - 1 := (by omega); simp [stepIn, stepTo, bAt, -List.getD_eq_getElem?_getD, -Int.pred_toNat, q, *]; done) | (have q : ¬ i % g.w < g.w - 1 := (by omega); simp [stepIn, stepTo, bAt, -List.getD_eq_getElem?_getD, -Int.pred_toNat, q, *]; done) | (have q : i / g.w < g.h - 1 := (by omega); simp [stepIn, stepTo, bAt, -List.getD_eq_getElem?_getD, -Int.pred_toNat, q, *]; done) | (have q : ¬ i / g.w < g.h - 1 := (by omega); simp [stepIn, stepTo, bAt, -List.getD_eq_getElem?_getD, -Int.pred_toNat, q, *]; done) | (have q : 0 < i % g.w := (by omega); simp [stepIn, stepTo, bAt, -List.getD_eq_getElem?_getD, -Int.pred_toNat, q, *]; done) | (have q : ¬ 0 < i % g.w := (by omega); simp [stepIn, stepTo, bAt, -List.getD_eq_getElem?_getD, -Int.pred_toNat, q, *]; done) | (have q : 0 < i / g.w := (by omega); simp [stepIn, stepTo, bAt, -List.getD_eq_getElem?_getD, -Int.pred_toNat, q, *]; done) | (have q : ¬ 0 < i / g.w := (by omega); simp [stepIn, stepTo, bAt, -List.getD_eq_getElem?_getD, -Int.pred_toNat, q, *]; done) | (simp [stepIn, stepTo, bAt, -List.getD_eq_getElem?_getD, -Int.pred_toNat, *]; done) | skip
theorem d38_2 (g : Gr) (i : Int)  : Con Tryd.prog 117 [] [g.d, .v (.int .i64 i), .v (.int .i64 (2))] (.tup [.v (.int .i64 (stepF g i (2)).1), .v (.bool (stepF g i (2)).2)]) [] [] := by
  refine con_vc (how := [none, none]) (c := g38) (K := (KK g38)) (spG true) (fun _ => []) (fun _ => []) 400 (.fork .stop (.f (.f (.f (.f (.f (.f (.t (.fork (.fork (.fork (.t .stop) (.fork .stop .stop)) (.f (.f (.f (.fork (.t .stop) (.fork .stop .stop)))))) (.f (.f (.f (.f (.fork (.t .stop) (.fork .stop .stop))))))))))))))) (V := fun G R => Con Tryd.prog 142 [] [D.agg [D.v (Value.int IntKind.i64 g.h), D.v (Value.int IntKind.i64 g.w), D.sl false false Ty.bool g.B, D.sl false false Ty.bool g.R, D.sl false false Ty.bool g.L], D.v (Value.int IntKind.i64 i)] (D.v (Value.bool (openF g i))) [] [] ∧ Value.int IntKind.i64 g.h = Value.int IntKind.i64 g.h ∧ Value.int IntKind.i64 g.w = Value.int IntKind.i64 g.w ∧ g.B = g.B ∧ g.R = g.R ∧ g.L = g.L ∧ Value.int IntKind.i64 i = Value.int IntKind.i64 i ∧ ((!openF g i) = true → R (D.tup [D.v (Value.int IntKind.i64 (0 : Int)), D.v (Value.bool false)], [], [])) ∧ ((!openF g i) = false → g.w ≠ (0 : Int) ∧ g.w ≠ (0 : Int) ∧ ((2 : Int) == (0 : Int)) = false ∧ false = false ∧ false = false ∧ ((2 : Int) == (1 : Int)) = false ∧ false = false ∧ false = false ∧ ((2 : Int) == (2 : Int)) = true ∧ (decide (i.tmod g.w > (0 : Int)) = true → (0 : Int) ≤ IntKind.i64.wrap (i - (1 : Int)) ∧ IntKind.i64.wrap (i - (1 : Int)) < (↑g.R.length : Int) ∧ ((!g.R.getD (IntKind.i64.wrap (i - (1 : Int))).toNat Ty.bool.dflt) = true → (decide (IntKind.i64.wrap (i - (1 : Int)) < (0 : Int)) = true → true = true ∧ R (D.tup [D.v (Value.int IntKind.i64 (0 : Int)), D.v (Value.bool false)], [], [])) ∧ (decide (IntKind.i64.wrap (i - (1 : Int)) < (0 : Int)) = false → (0 : Int) ≤ IntKind.i64.wrap (i - (1 : Int)) ∧ IntKind.i64.wrap (i - (1 : Int)) < (↑g.B.length : Int) ∧ (g.B.getD (IntKind.i64.wrap (i - (1 : Int))).toNat Ty.bool.dflt = true → R (D.tup [D.v (Value.int IntKind.i64 (0 : Int)), D.v (Value.bool false)], [], [])) ∧ (g.B.getD (IntKind.i64.wrap (i - (1 : Int))).toNat Ty.bool.dflt = false → R (D.tup [D.v (Value.int IntKind.i64 (IntKind.i64.wrap (i - (1 : Int)))), D.v (Value.bool true)], [], [])))) ∧ ((!g.R.getD (IntKind.i64.wrap (i - (1 : Int))).toNat Ty.bool.dflt) = false → ((2 : Int) == (3 : Int)) = false ∧ false = false ∧ false = false ∧ (decide ((-1 : Int) < (0 : Int)) = true → true = true ∧ R (D.tup [D.v (Value.int IntKind.i64 (0 : Int)), D.v (Value.bool false)], [], [])) ∧ (decide ((-1 : Int) < (0 : Int)) = false → (0 : Int) ≤ (-1 : Int) ∧ (-1 : Int) < (↑g.B.length : Int) ∧ (g.B.getD 0 Ty.bool.dflt = true → R (D.tup [D.v (Value.int IntKind.i64 (0 : Int)), D.v (Value.bool false)], [], [])) ∧ (g.B.getD 0 Ty.bool.dflt = false → R (D.tup [D.v (Value.int IntKind.i64 (-1 : Int)), D.v (Value.bool true)], [], []))))) ∧ (decide (i.tmod g.w > (0 : Int)) = false → false = false ∧ ((2 : Int) == (3 : Int)) = false ∧ false = false ∧ false = false ∧ (decide ((-1 : Int) < (0 : Int)) = true → true = true ∧ R (D.tup [D.v (Value.int IntKind.i64 (0 : Int)), D.v (Value.bool false)], [], [])) ∧ (decide ((-1 : Int) < (0 : Int)) = false → (0 : Int) ≤ (-1 : Int) ∧ (-1 : Int) < (↑g.B.length : Int) ∧ (g.B.getD 0 Ty.bool.dflt = true → R (D.tup [D.v (Value.int IntKind.i64 (0 : Int)), D.v (Value.bool false)], [], [])) ∧ (g.B.getD 0 Ty.bool.dflt = false → R (D.tup [D.v (Value.int IntKind.i64 (-1 : Int)), D.v (Value.bool true)], [], [])))))) hmG Tryd.func117 (by kernel_rfl) (by kernel_rfl) (fun G R => by kernel_rfl) ?_
  try dsimp only
  rcases Bool.eq_false_or_eq_true (openF g i) with ho | ho
  rotate_left
  · simp [ho, stepF]
    have := d46 g i; rwa [ho] at this
  · obtain ⟨hc, i0, i1, hb⟩ := open_in ho
    obtain ⟨h1, w1, sz, _⟩ := chk0.1 hc
    obtain ⟨s1, s2, s3⟩ := size3 sz
    have hw := hw_in h1 w1
    have hh := side_iff.1 h1
    have ww := side_iff.1 w1
    have e1 : i.tmod g.w = i % g.w := Int.tmod_eq_emod_of_nonneg i0
    have e2 : i.tdiv g.w = i / g.w := Int.tdiv_eq_ediv_of_nonneg i0
    have rr := row_in ww.1 i0 i1
    have r4 := right_in ww.1 i0 i1
    have r5 := below_in ww.1 i0 i1
    have r6 : 0 ≤ i / g.w * g.w := Int.mul_nonneg rr.1 (by omega)
    have r7 : 1 ≤ i / g.w → g.w ≤ i / g.w * g.w := fun h => by have := Int.mul_le_mul_of_nonneg_right h (show 0 ≤ g.w by omega); omega
    simp only [stepF, ho, if_true]
    simp (disch := omega) only [e1, e2, ho, wrG, sameK_iff, true_and, and_true, decide_eq_true_eq, decide_eq_false_iff_not, ne_eq, not_false_eq_true, Bool.false_eq_true, Bool.true_eq_false, false_implies, true_implies, Ty.dflt, reduceCtorEq, beq_iff_eq, bne_iff_ne, beq_eq_false_iff_ne, bne_eq_false_iff_eq, Bool.not_eq_true, Bool.not_eq_eq_eq_not, Bool.not_true, Bool.not_false, gt_iff_lt, ge_iff_le, Int.not_lt, Int.not_le]
    repeat' (first | with_reducible refine And.intro ?_ ?_ | intro _)
    all_goals first | rfl | omega | assumption | (have := d46 g i; rwa [ho] at this) | (have q : i % g.w < g.w - 1 := (by omega); simp [stepIn, stepTo, bAt, -List.getD_eq_getElem?_getD, -Int.pred_toNat, q, *]; done) | (have q : ¬ i % g.w < g.w - 1 := (by omega); simp [stepIn, stepTo, bAt, -List.getD_eq_getElem?_getD, -Int.pred_toNat, q, *]; done) | (have q : i / g.w < g.h - 1 := (by omega); simp [stepIn, stepTo, bAt, -List.getD_eq_getElem?_getD, -Int.pred_toNat, q, *]; done) | (have q : ¬ i / g.w < g.h - 1 := (by omega); simp [stepIn, stepTo, bAt, -List.getD_eq_getElem?_getD, -Int.pred_toNat, q, *]; done) | (have q : 0 < i % g.w := (by omega); simp [stepIn, stepTo, bAt, -List.getD_eq_getElem?_getD, -Int.pred_toNat, q, *]; done) | (have q : ¬ 0 < i % g.w := (by omega); simp [stepIn, stepTo, bAt, -List.getD_eq_getElem?_getD, -Int.pred_toNat, q, *]; done) | (have q : 0 < i / g.w := (by omega); simp [stepIn, stepTo, bAt, -List.getD_eq_getElem?_getD, -Int.pred_toNat, q, *]; done) | (have q : ¬ 0 < i / g.w := (by omega); simp [stepIn, stepTo, bAt, -List.getD_eq_getElem?_getD, -Int.pred_toNat, q, *]; done) | (simp [stepIn, stepTo, bAt, -List.getD_eq_getElem?_getD, -Int.pred_toNat, *]; done) | skip
theorem d38_3 (g : Gr) (i : Int)  : Con Tryd.prog 117 [] [g.d, .v (.int .i64 i), .v (.int .i64 (3))] (.tup [.v (.int .i64 (stepF g i (3)).1), .v (.bool (stepF g i (3)).2)]) [] [] := by
  refine con_vc (how := [none, none]) (c := g38) (K := (KK g38)) (spG true) (fun _ => []) (fun _ => []) 400 (.fork .stop (.f (.f (.f (.f (.f (.f (.f (.f (.f (.t (.fork (.fork (.fork (.t .stop) (.fork .stop .stop)) (.fork (.t .stop) (.fork .stop .stop))) (.f (.fork (.t .stop) (.fork .stop .stop))))))))))))))) (V := fun G R => Con Tryd.prog 142 [] [D.agg [D.v (Value.int IntKind.i64 g.h), D.v (Value.int IntKind.i64 g.w), D.sl false false Ty.bool g.B, D.sl false false Ty.bool g.R, D.sl false false Ty.bool g.L], D.v (Value.int IntKind.i64 i)] (D.v (Value.bool (openF g i))) [] [] ∧ Value.int IntKind.i64 g.h = Value.int IntKind.i64 g.h ∧ Value.int IntKind.i64 g.w = Value.int IntKind.i64 g.w ∧ g.B = g.B ∧ g.R = g.R ∧ g.L = g.L ∧ Value.int IntKind.i64 i = Value.int IntKind.i64 i ∧ ((!openF g i) = true → R (D.tup [D.v (Value.int IntKind.i64 (0 : Int)), D.v (Value.bool false)], [], [])) ∧ ((!openF g i) = false → g.w ≠ (0 : Int) ∧ g.w ≠ (0 : Int) ∧ ((3 : Int) == (0 : Int)) = false ∧ false = false ∧ false = false ∧ ((3 : Int) == (1 : Int)) = false ∧ false = false ∧ false = false ∧ ((3 : Int) == (2 : Int)) = false ∧ false = false ∧ false = false ∧ ((3 : Int) == (3 : Int)) = true ∧ (decide (IntKind.i64.wrap (i.tdiv g.w) > (0 : Int)) = true → (0 : Int) ≤ IntKind.i64.wrap (i - g.w) ∧ IntKind.i64.wrap (i - g.w) < (↑g.L.length : Int) ∧ ((!g.L.getD (IntKind.i64.wrap (i - g.w)).toNat Ty.bool.dflt) = true → (decide (IntKind.i64.wrap (i - g.w) < (0 : Int)) = true → true = true ∧ R (D.tup [D.v (Value.int IntKind.i64 (0 : Int)), D.v (Value.bool false)], [], [])) ∧ (decide (IntKind.i64.wrap (i - g.w) < (0 : Int)) = false → (0 : Int) ≤ IntKind.i64.wrap (i - g.w) ∧ IntKind.i64.wrap (i - g.w) < (↑g.B.length : Int) ∧ (g.B.getD (IntKind.i64.wrap (i - g.w)).toNat Ty.bool.dflt = true → R (D.tup [D.v (Value.int IntKind.i64 (0 : Int)), D.v (Value.bool false)], [], [])) ∧ (g.B.getD (IntKind.i64.wrap (i - g.w)).toNat Ty.bool.dflt = false → R (D.tup [D.v (Value.int IntKind.i64 (IntKind.i64.wrap (i - g.w))), D.v (Value.bool true)], [], [])))) ∧ ((!g.L.getD (IntKind.i64.wrap (i - g.w)).toNat Ty.bool.dflt) = false → (decide ((-1 : Int) < (0 : Int)) = true → true = true ∧ R (D.tup [D.v (Value.int IntKind.i64 (0 : Int)), D.v (Value.bool false)], [], [])) ∧ (decide ((-1 : Int) < (0 : Int)) = false → (0 : Int) ≤ (-1 : Int) ∧ (-1 : Int) < (↑g.B.length : Int) ∧ (g.B.getD 0 Ty.bool.dflt = true → R (D.tup [D.v (Value.int IntKind.i64 (0 : Int)), D.v (Value.bool false)], [], [])) ∧ (g.B.getD 0 Ty.bool.dflt = false → R (D.tup [D.v (Value.int IntKind.i64 (-1 : Int)), D.v (Value.bool true)], [], []))))) ∧ (decide (IntKind.i64.wrap (i.tdiv g.w) > (0 : Int)) = false → false = false ∧ (decide ((-1 : Int) < (0 : Int)) = true → true = true ∧ R (D.tup [D.v (Value.int IntKind.i64 (0 : Int)), D.v (Value.bool false)], [], [])) ∧ (decide ((-1 : Int) < (0 : Int)) = false → (0 : Int) ≤ (-1 : Int) ∧ (-1 : Int) < (↑g.B.length : Int) ∧ (g.B.getD 0 Ty.bool.dflt = true → R (D.tup [D.v (Value.int IntKind.i64 (0 : Int)), D.v (Value.bool false)], [], [])) ∧ (g.B.getD 0 Ty.bool.dflt = false → R (D.tup [D.v (Value.int IntKind.i64 (-1 : Int)), D.v (Value.bool true)], [], [])))))) hmG Tryd.func117 (by kernel_rfl) (by kernel_rfl) (fun G R => by kernel_rfl) ?_
  try dsimp only
  rcases Bool.eq_false_or_eq_true (openF g i) with ho | ho
  rotate_left
  · simp [ho, stepF]
    have := d46 g i; rwa [ho] at this
  · obtain ⟨hc, i0, i1, hb⟩ := open_in ho
    obtain ⟨h1, w1, sz, _⟩ := chk0.1 hc
    obtain ⟨s1, s2, s3⟩ := size3 sz
    have hw := hw_in h1 w1
    have hh := side_iff.1 h1
    have ww := side_iff.1 w1
    have e1 : i.tmod g.w = i % g.w := Int.tmod_eq_emod_of_nonneg i0
    have e2 : i.tdiv g.w = i / g.w := Int.tdiv_eq_ediv_of_nonneg i0
    have rr := row_in ww.1 i0 i1
    have r4 := right_in ww.1 i0 i1
    have r5 := below_in ww.1 i0 i1
    have r6 : 0 ≤ i / g.w * g.w := Int.mul_nonneg rr.1 (by omega)
    have r7 : 1 ≤ i / g.w → g.w ≤ i / g.w * g.w := fun h => by have := Int.mul_le_mul_of_nonneg_right h (show 0 ≤ g.w by omega); omega
    simp only [stepF, ho, if_true]
    simp (disch := omega) only [e1, e2, ho, wrG, sameK_iff, true_and, and_true, decide_eq_true_eq, decide_eq_false_iff_not, ne_eq, not_false_eq_true, Bool.false_eq_true, Bool.true_eq_false, false_implies, true_implies, Ty.dflt, reduceCtorEq, beq_iff_eq, bne_iff_ne, beq_eq_false_iff_ne, bne_eq_false_iff_eq, Bool.not_eq_true, Bool.not_eq_eq_eq_not, Bool.not_true, Bool.not_false, gt_iff_lt, ge_iff_le, Int.not_lt, Int.not_le]
    repeat' (first | with_reducible refine And.intro ?_ ?_ | intro _)
    all_goals first | rfl | omega | assumption | (have := d46 g i; rwa [ho] at this) | (have q : i % g.w < g.w - 1 := (by omega); simp [stepIn, stepTo, bAt, -List.getD_eq_getElem?_getD, -Int.pred_toNat, q, *]; done) | (have q : ¬ i % g.w < g.w - 1 := (by omega); simp [stepIn, stepTo, bAt, -List.getD_eq_getElem?_getD, -Int.pred_toNat, q, *]; done) | (have q : i / g.w < g.h - 1 := (by omega); simp [stepIn, stepTo, bAt, -List.getD_eq_getElem?_getD, -Int.pred_toNat, q, *]; done) | (have q : ¬ i / g.w < g.h - 1 := (by omega); simp [stepIn, stepTo, bAt, -List.getD_eq_getElem?_getD, -Int.pred_toNat, q, *]; done) | (have q : 0 < i % g.w := (by omega); simp [stepIn, stepTo, bAt, -List.getD_eq_getElem?_getD, -Int.pred_toNat, q, *]; done) | (have q : ¬ 0 < i % g.w := (by omega); simp [stepIn, stepTo, bAt, -List.getD_eq_getElem?_getD, -Int.pred_toNat, q, *]; done) | (have q : 0 < i / g.w := (by omega); simp [stepIn, stepTo, bAt, -List.getD_eq_getElem?_getD, -Int.pred_toNat, q, *]; done) | (have q : ¬ 0 < i / g.w := (by omega); simp [stepIn, stepTo, bAt, -List.getD_eq_getElem?_getD, -Int.pred_toNat, q, *]; done) | (simp [stepIn, stepTo, bAt, -List.getD_eq_getElem?_getD, -Int.pred_toNat, *]; done) | skip
theorem d38_4 (g : Gr) (i y : Int) (hy : y < 0 ∨ 3 < y) : Con Tryd.prog 117 [] [g.d, .v (.int .i64 i), .v (.int .i64 y)] (.tup [.v (.int .i64 (stepF g i y).1), .v (.bool (stepF g i y).2)]) [] [] := by
  refine con_vc (how := [none, none]) (c := g38) (K := (KK g38)) (spG true) (fun _ => []) (fun _ => []) 400 (.fork .stop (.f (.f (.f (.f (.f (.f (.f (.f (.f (.f (.f (.f (.fork (.t .stop) (.fork .stop .stop))))))))))))))) (V := fun G R => Con Tryd.prog 142 [] [D.agg [D.v (Value.int IntKind.i64 g.h), D.v (Value.int IntKind.i64 g.w), D.sl false false Ty.bool g.B, D.sl false false Ty.bool g.R, D.sl false false Ty.bool g.L], D.v (Value.int IntKind.i64 i)] (D.v (Value.bool (openF g i))) [] [] ∧ Value.int IntKind.i64 g.h = Value.int IntKind.i64 g.h ∧ Value.int IntKind.i64 g.w = Value.int IntKind.i64 g.w ∧ g.B = g.B ∧ g.R = g.R ∧ g.L = g.L ∧ Value.int IntKind.i64 i = Value.int IntKind.i64 i ∧ ((!openF g i) = true → R (D.tup [D.v (Value.int IntKind.i64 (0 : Int)), D.v (Value.bool false)], [], [])) ∧ ((!openF g i) = false → g.w ≠ (0 : Int) ∧ g.w ≠ (0 : Int) ∧ (y == (0 : Int)) = false ∧ false = false ∧ false = false ∧ (y == (1 : Int)) = false ∧ false = false ∧ false = false ∧ (y == (2 : Int)) = false ∧ false = false ∧ false = false ∧ (y == (3 : Int)) = false ∧ false = false ∧ false = false ∧ (decide ((-1 : Int) < (0 : Int)) = true → true = true ∧ R (D.tup [D.v (Value.int IntKind.i64 (0 : Int)), D.v (Value.bool false)], [], [])) ∧ (decide ((-1 : Int) < (0 : Int)) = false → (0 : Int) ≤ (-1 : Int) ∧ (-1 : Int) < (↑g.B.length : Int) ∧ (g.B.getD 0 Ty.bool.dflt = true → R (D.tup [D.v (Value.int IntKind.i64 (0 : Int)), D.v (Value.bool false)], [], [])) ∧ (g.B.getD 0 Ty.bool.dflt = false → R (D.tup [D.v (Value.int IntKind.i64 (-1 : Int)), D.v (Value.bool true)], [], []))))) hmG Tryd.func117 (by kernel_rfl) (by kernel_rfl) (fun G R => by kernel_rfl) ?_
  try dsimp only
  rcases Bool.eq_false_or_eq_true (openF g i) with ho | ho
  rotate_left
  · simp [ho, stepF]
    have := d46 g i; rwa [ho] at this
  · obtain ⟨hc, i0, i1, hb⟩ := open_in ho
    obtain ⟨h1, w1, sz, _⟩ := chk0.1 hc
    obtain ⟨s1, s2, s3⟩ := size3 sz
    have hw := hw_in h1 w1
    have hh := side_iff.1 h1
    have ww := side_iff.1 w1
    have e1 : i.tmod g.w = i % g.w := Int.tmod_eq_emod_of_nonneg i0
    have e2 : i.tdiv g.w = i / g.w := Int.tdiv_eq_ediv_of_nonneg i0
    have rr := row_in ww.1 i0 i1
    have r4 := right_in ww.1 i0 i1
    have r5 := below_in ww.1 i0 i1
    have r6 : 0 ≤ i / g.w * g.w := Int.mul_nonneg rr.1 (by omega)
    have r7 : 1 ≤ i / g.w → g.w ≤ i / g.w * g.w := fun h => by have := Int.mul_le_mul_of_nonneg_right h (show 0 ≤ g.w by omega); omega
    simp only [stepF, ho, if_true]
    simp (disch := omega) only [e1, e2, ho, wrG, sameK_iff, true_and, and_true, decide_eq_true_eq, decide_eq_false_iff_not, ne_eq, not_false_eq_true, Bool.false_eq_true, Bool.true_eq_false, false_implies, true_implies, Ty.dflt, reduceCtorEq, beq_iff_eq, bne_iff_ne, beq_eq_false_iff_ne, bne_eq_false_iff_eq, Bool.not_eq_true, Bool.not_eq_eq_eq_not, Bool.not_true, Bool.not_false, gt_iff_lt, ge_iff_le, Int.not_lt, Int.not_le]
    repeat' (first | with_reducible refine And.intro ?_ ?_ | intro _)
    all_goals first | rfl | omega | assumption | (have := d46 g i; rwa [ho] at this) | (have q : i % g.w < g.w - 1 := (by omega); simp [stepIn, stepTo, bAt, -List.getD_eq_getElem?_getD, -Int.pred_toNat, q, *]; done) | (have q : ¬ i % g.w < g.w - 1 := (by omega); simp [stepIn, stepTo, bAt, -List.getD_eq_getElem?_getD, -Int.pred_toNat, q, *]; done) | (have q : i / g.w < g.h - 1 := (by omega); simp [stepIn, stepTo, bAt, -List.getD_eq_getElem?_getD, -Int.pred_toNat, q, *]; done) | (have q : ¬ i / g.w < g.h - 1 := (by omega); simp [stepIn, stepTo, bAt, -List.getD_eq_getElem?_getD, -Int.pred_toNat, q, *]; done) | (have q : 0 < i % g.w := (by omega); simp [stepIn, stepTo, bAt, -List.getD_eq_getElem?_getD, -Int.pred_toNat, q, *]; done) | (have q : ¬ 0 < i % g.w := (by omega); simp [stepIn, stepTo, bAt, -List.getD_eq_getElem?_getD, -Int.pred_toNat, q, *]; done) | (have q : 0 < i / g.w := (by omega); simp [stepIn, stepTo, bAt, -List.getD_eq_getElem?_getD, -Int.pred_toNat, q, *]; done) | (have q : ¬ 0 < i / g.w := (by omega); simp [stepIn, stepTo, bAt, -List.getD_eq_getElem?_getD, -Int.pred_toNat, q, *]; done) | (rw [step_off hy]; done) | (simp [stepIn, stepTo, bAt, -List.getD_eq_getElem?_getD, -Int.pred_toNat, *]; done) | skip
theorem d38 (g : Gr) (i y : Int) : Con Tryd.prog 117 [] [g.d, .v (.int .i64 i), .v (.int .i64 y)] (.tup [.v (.int .i64 (stepF g i y).1), .v (.bool (stepF g i y).2)]) [] [] := by
  have : y = 0 ∨ y = 1 ∨ y = 2 ∨ y = 3 ∨ (y < 0 ∨ 3 < y) := by omega
  rcases this with rfl | rfl | rfl | rfl | h
  · exact d38_0 g i
  · exact d38_1 g i
  · exact d38_2 g i
  · exact d38_3 g i
  · exact d38_4 g i y h

def nearS (g : Gr) (i : Int) : Nat → Int → List Int
  | 0, _ => []
  | m + 1, way => (if (stepF g i way).2 then [(stepF g i way).1] else []) ++ nearS g i m (way + 1)

theorem nearS_eq (g : Gr) (i : Int) : ∀ (m : Nat) (y : Int), nearS g i m y = if openF g i then nearFrom g i m y else []
  | 0, y => by simp [nearS, nearFrom]
  | m + 1, y => by
    simp only [nearS, nearS_eq g i m, stepF]
    by_cases h : openF g i = true <;> simp [h, nearFrom]

theorem e83 (A B : List Bool) (hl : A.length < 4611686018427387904) (he : A.length = B.length) (m : Nat) : ∀ (i : Int), 0 ≤ i → i + m = A.length → GetsK Tryd.prog Tryd.f83.results.toList [none] (KK g83) 0 (.v (.bool (decide (A.drop i.toNat = B.drop i.toNat))), [], []) 0 (stOf 26 [0,1,5] [slB A, slB B, .v (.int .i64 i)] []) := by
  induction m with
  | zero =>
    intro i i0 im
    refine gets_vc (spG true) (fun _ => [0,1,5]) (fun _ => []) 400 (.fork (.fork .stop (.hd 0)) .stop) (V := fun G R => (decide (i < (↑A.length : Int)) = true → (0 : Int) ≤ i ∧ i < (↑A.length : Int) ∧ (0 : Int) ≤ i ∧ i < (↑B.length : Int) ∧ ((!A.getD i.toNat Ty.bool.dflt == B.getD i.toNat Ty.bool.dflt) = true → R (D.v (Value.bool false), [], [])) ∧ ((!A.getD i.toNat Ty.bool.dflt == B.getD i.toNat Ty.bool.dflt) = false → SameK (KK g83 0) (KK g83 0) ∧ G 0 (stOf 26 [0, 1, 5] [D.sl false false Ty.bool A, D.sl false false Ty.bool B, D.v (Value.int IntKind.i64 (IntKind.i64.wrap (i + (1 : Int))))] []))) ∧ (decide (i < (↑A.length : Int)) = false → R (D.v (Value.bool true), [], []))) hmG (fun G R => by kernel_rfl) ?_
    try dsimp only
    simp (disch := omega) only [wrG, sameK_iff, true_and, and_true, decide_eq_true_eq, decide_eq_false_iff_not, ne_eq, not_false_eq_true, Bool.false_eq_true, Bool.true_eq_false, false_implies, true_implies, Ty.dflt, reduceCtorEq, beq_iff_eq, bne_iff_ne, beq_eq_false_iff_ne, bne_eq_false_iff_eq, Bool.not_eq_true, Bool.not_eq_eq_eq_not, Bool.not_true, Bool.not_false, gt_iff_lt, ge_iff_le, Int.not_lt, Int.not_le]
    repeat' (first | with_reducible refine And.intro ?_ ?_ | intro _)
    all_goals first | omega | rw [drop_end (by omega) (by omega)] | skip
  | succ m ih =>
    intro i i0 im
    refine gets_vc (spG true) (fun _ => [0,1,5]) (fun _ => []) 400 (.fork (.fork .stop (.hd 0)) .stop) (V := fun G R => (decide (i < (↑A.length : Int)) = true → (0 : Int) ≤ i ∧ i < (↑A.length : Int) ∧ (0 : Int) ≤ i ∧ i < (↑B.length : Int) ∧ ((!A.getD i.toNat Ty.bool.dflt == B.getD i.toNat Ty.bool.dflt) = true → R (D.v (Value.bool false), [], [])) ∧ ((!A.getD i.toNat Ty.bool.dflt == B.getD i.toNat Ty.bool.dflt) = false → SameK (KK g83 0) (KK g83 0) ∧ G 0 (stOf 26 [0, 1, 5] [D.sl false false Ty.bool A, D.sl false false Ty.bool B, D.v (Value.int IntKind.i64 (IntKind.i64.wrap (i + (1 : Int))))] []))) ∧ (decide (i < (↑A.length : Int)) = false → R (D.v (Value.bool true), [], []))) hmG (fun G R => by kernel_rfl) ?_
    try dsimp only
    simp (disch := omega) only [wrG, sameK_iff, true_and, and_true, decide_eq_true_eq, decide_eq_false_iff_not, ne_eq, not_false_eq_true, Bool.false_eq_true, Bool.true_eq_false, false_implies, true_implies, Ty.dflt, reduceCtorEq, beq_iff_eq, bne_iff_ne, beq_eq_false_iff_ne, bne_eq_false_iff_eq, Bool.not_eq_true, Bool.not_eq_eq_eq_not, Bool.not_true, Bool.not_false, gt_iff_lt, ge_iff_le, Int.not_lt, Int.not_le]
    repeat' (first | with_reducible refine And.intro ?_ ?_ | intro _)
    all_goals first | omega | (rw [drop_eq false i0 (by omega) (by omega)]; simp_all [-List.getD_eq_getElem?_getD]; done) | (rename_i hq; rw [drop_eq false i0 (by omega) (by omega), show decide (A.getD i.toNat false = B.getD i.toNat false) = true from decide_eq_true hq, Bool.true_and]; exact ih (i + 1) (by omega) (by omega)) | skip

theorem d83 (A B : List Bool) (hl : A.length < 4611686018427387904) : Con Tryd.prog 83 [] [slB A, slB B] (.v (.bool (decide (A = B)))) [] [] := by
  refine con_vc (how := [none]) (c := g83) (K := (KK g83)) (spG true) (fun _ => [0,1,5]) (fun _ => []) 400 (.fork .stop (.hd 0)) (V := fun G R => (((↑A.length : Int) != (↑B.length : Int)) = true → R (D.v (Value.bool false), [], [])) ∧ (((↑A.length : Int) != (↑B.length : Int)) = false → SameK (KK g83 0) (KK g83 0) ∧ G 0 (stOf 26 [0, 1, 5] [D.sl false false Ty.bool A, D.sl false false Ty.bool B, D.v (Value.int IntKind.i64 (0 : Int))] []))) hmG Tryd.func83 (by kernel_rfl) (by kernel_rfl) (fun G R => by kernel_rfl) ?_
  try dsimp only
  by_cases he : A.length = B.length
  · have := e83 A B hl he A.length 0 (by omega) (by omega)
    simp [he, sameK_iff] at this ⊢
    exact this
  · have hn : A ≠ B := fun h => he (by rw [h])
    simp [hn]
    intro h
    omega
theorem e41 (A B : List Int) (hl : A.length < 4611686018427387904) (he : A.length = B.length) (m : Nat) : ∀ (i : Int), 0 ≤ i → i + m = A.length → GetsK Tryd.prog Tryd.f23.results.toList [none] (KK g41) 0 (.v (.bool (decide (A.drop i.toNat = B.drop i.toNat))), [], []) 0 (stOf 26 [0,1,5] [slI A, slI B, .v (.int .i64 i)] []) := by
  induction m with
  | zero =>
    intro i i0 im
    refine gets_vc (spG true) (fun _ => [0,1,5]) (fun _ => []) 400 (.fork (.fork .stop (.hd 0)) .stop) (V := fun G R => (decide (i < (↑A.length : Int)) = true → (0 : Int) ≤ i ∧ i < (↑A.length : Int) ∧ (0 : Int) ≤ i ∧ i < (↑B.length : Int) ∧ ((A.getD i.toNat (Ty.int IntKind.i64).dflt != B.getD i.toNat (Ty.int IntKind.i64).dflt) = true → R (D.v (Value.bool false), [], [])) ∧ ((A.getD i.toNat (Ty.int IntKind.i64).dflt != B.getD i.toNat (Ty.int IntKind.i64).dflt) = false → SameK (KK g41 0) (KK g41 0) ∧ G 0 (stOf 26 [0, 1, 5] [D.sl false false (Ty.int IntKind.i64) A, D.sl false false (Ty.int IntKind.i64) B, D.v (Value.int IntKind.i64 (IntKind.i64.wrap (i + (1 : Int))))] []))) ∧ (decide (i < (↑A.length : Int)) = false → R (D.v (Value.bool true), [], []))) hmG (fun G R => by kernel_rfl) ?_
    try dsimp only
    simp (disch := omega) only [wrG, sameK_iff, true_and, and_true, decide_eq_true_eq, decide_eq_false_iff_not, ne_eq, not_false_eq_true, Bool.false_eq_true, Bool.true_eq_false, false_implies, true_implies, Ty.dflt, reduceCtorEq, beq_iff_eq, bne_iff_ne, beq_eq_false_iff_ne, bne_eq_false_iff_eq, Bool.not_eq_true, Bool.not_eq_eq_eq_not, Bool.not_true, Bool.not_false, gt_iff_lt, ge_iff_le, Int.not_lt, Int.not_le]
    repeat' (first | with_reducible refine And.intro ?_ ?_ | intro _)
    all_goals first | omega | rw [drop_end (by omega) (by omega)] | skip
  | succ m ih =>
    intro i i0 im
    refine gets_vc (spG true) (fun _ => [0,1,5]) (fun _ => []) 400 (.fork (.fork .stop (.hd 0)) .stop) (V := fun G R => (decide (i < (↑A.length : Int)) = true → (0 : Int) ≤ i ∧ i < (↑A.length : Int) ∧ (0 : Int) ≤ i ∧ i < (↑B.length : Int) ∧ ((A.getD i.toNat (Ty.int IntKind.i64).dflt != B.getD i.toNat (Ty.int IntKind.i64).dflt) = true → R (D.v (Value.bool false), [], [])) ∧ ((A.getD i.toNat (Ty.int IntKind.i64).dflt != B.getD i.toNat (Ty.int IntKind.i64).dflt) = false → SameK (KK g41 0) (KK g41 0) ∧ G 0 (stOf 26 [0, 1, 5] [D.sl false false (Ty.int IntKind.i64) A, D.sl false false (Ty.int IntKind.i64) B, D.v (Value.int IntKind.i64 (IntKind.i64.wrap (i + (1 : Int))))] []))) ∧ (decide (i < (↑A.length : Int)) = false → R (D.v (Value.bool true), [], []))) hmG (fun G R => by kernel_rfl) ?_
    try dsimp only
    simp (disch := omega) only [wrG, sameK_iff, true_and, and_true, decide_eq_true_eq, decide_eq_false_iff_not, ne_eq, not_false_eq_true, Bool.false_eq_true, Bool.true_eq_false, false_implies, true_implies, Ty.dflt, reduceCtorEq, beq_iff_eq, bne_iff_ne, beq_eq_false_iff_ne, bne_eq_false_iff_eq, Bool.not_eq_true, Bool.not_eq_eq_eq_not, Bool.not_true, Bool.not_false, gt_iff_lt, ge_iff_le, Int.not_lt, Int.not_le]
    repeat' (first | with_reducible refine And.intro ?_ ?_ | intro _)
    all_goals first | omega | (rw [drop_eq (0 : Int) i0 (by omega) (by omega)]; simp_all [-List.getD_eq_getElem?_getD]; done) | (rename_i hq; rw [drop_eq (0 : Int) i0 (by omega) (by omega), show decide (A.getD i.toNat (0 : Int) = B.getD i.toNat (0 : Int)) = true from decide_eq_true hq, Bool.true_and]; exact ih (i + 1) (by omega) (by omega)) | skip

theorem d41 (A B : List Int) (hl : A.length < 4611686018427387904) : Con Tryd.prog 23 [] [slI A, slI B] (.v (.bool (decide (A = B)))) [] [] := by
  refine con_vc (how := [none]) (c := g41) (K := (KK g41)) (spG true) (fun _ => [0,1,5]) (fun _ => []) 400 (.fork .stop (.hd 0)) (V := fun G R => (((↑A.length : Int) != (↑B.length : Int)) = true → R (D.v (Value.bool false), [], [])) ∧ (((↑A.length : Int) != (↑B.length : Int)) = false → SameK (KK g41 0) (KK g41 0) ∧ G 0 (stOf 26 [0, 1, 5] [D.sl false false (Ty.int IntKind.i64) A, D.sl false false (Ty.int IntKind.i64) B, D.v (Value.int IntKind.i64 (0 : Int))] []))) hmG Tryd.func23 (by kernel_rfl) (by kernel_rfl) (fun G R => by kernel_rfl) ?_
  try dsimp only
  by_cases he : A.length = B.length
  · have := e41 A B hl he A.length 0 (by omega) (by omega)
    simp [he, sameK_iff] at this ⊢
    exact this
  · have hn : A ≠ B := fun h => he (by rw [h])
    simp [hn]
    intro h
    omega