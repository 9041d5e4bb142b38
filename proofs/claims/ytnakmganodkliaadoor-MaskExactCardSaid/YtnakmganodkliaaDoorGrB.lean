/- The contracts of package grid's functions and of its reference's, part two. -/
import Derived.Test.YtnakmganodkliaaDoorGrA
set_option linter.unusedVariables false
set_option linter.unusedSimpArgs false
set_option maxRecDepth 100000
namespace Go.Proofs.YtnakmganodkliaaDoorAm
open Go

theorem chk0 {g : Gr} : checkF g = 0 ↔ sideB g.h = true ∧ sideB g.w = true ∧ sizeB3 g = true ∧ anyBar g (g.h * g.w).toNat 0 = false := by
  unfold checkF
  cases sideB g.h <;> cases sideB g.w <;> cases sizeB3 g <;> cases anyBar g (g.h * g.w).toNat 0 <;> simp

theorem drop_at {α : Type} {xs : List α} {i : Int} (d : α) (h0 : 0 ≤ i) (h1 : i < xs.length) : xs.drop i.toNat = xs.getD i.toNat d :: xs.drop (i + 1).toNat := by
  have h2 : i.toNat < xs.length := by omega
  rw [List.drop_eq_getElem_cons h2, List.getD_eq_getElem?_getD, List.getElem?_eq_getElem h2, show (i + 1).toNat = i.toNat + 1 by omega]
  rfl

theorem falses_cons (b : Bool) (xs : List Bool) : falses (b :: xs) = (if b then 0 else 1) + falses xs := by
  cases b <;> simp [falses, List.filter_cons]
  omega

theorem falses_in (xs : List Bool) : 0 ≤ falses xs ∧ falses xs ≤ xs.length := by
  unfold falses
  have := List.length_filter_le (fun b : Bool => !b) xs
  omega

theorem open_in {g : Gr} {i : Int} (h : openF g i = true) : checkF g = 0 ∧ 0 ≤ i ∧ i < g.h * g.w ∧ bAt g.B i = false := by
  simpa [openF, and_assoc] using h

theorem open_of {g : Gr} {i : Int} (h : checkF g = 0) (h0 : 0 ≤ i) (h1 : i < g.h * g.w) : openF g i = !bAt g.B i := by
  simp [openF, h, h0, h1]

theorem open_off {g : Gr} {i : Int} (h : checkF g ≠ 0) : openF g i = false := by
  simp [openF, h]

theorem d87 (g : Gr) (h1 : sideB g.h = true) (w1 : sideB g.w = true) (sz : sizeB3 g = true) : Con Tryd.prog 116 [] [g.d] (.v (.bool (anyBar g (g.h * g.w).toNat 0))) [] [] := by
  refine con_vc (how := [none]) (c := g87) (K := (KK g87)) (spG true) (fun _ => [1,3]) (fun _ => []) 400 (.hd 0) (V := fun G R => SameK (KK g87 0) (KK g87 0) ∧ G 0 (stOf 75 [1, 3] [D.ptr 0 0 0, D.v (Value.int IntKind.i64 (0 : Int))] [Slot.live (Row.box 46 [D.v (Value.int IntKind.i64 g.h), D.v (Value.int IntKind.i64 g.w), D.sl false false Ty.bool g.B, D.sl false false Ty.bool g.R, D.sl false false Ty.bool g.L])])) hmG Tryd.func116 (by kernel_rfl) (by kernel_rfl) (fun G R => by kernel_rfl) ?_
  try dsimp only
  simp only [sameK_iff, true_and]
  exact e87 g h1 w1 sz _ _ _ (by omega) (by have := hw_in h1 w1; omega) rfl
theorem d44 (g : Gr)  : Con Tryd.prog 80 [] [g.d] (.v (.int .i64 (checkF g))) [] [] := by
  refine con_vc (how := [none]) (c := g44) (K := (KK g44)) (spG true) (fun _ => []) (fun _ => []) 400 (.fork (.t .stop) (.fork .stop (.fork (.t (.t .stop)) (.fork (.t .stop) (.fork .stop (.fork .stop .stop)))))) (V := fun G R => Con Tryd.prog 115 [] [D.v (Value.int IntKind.i64 g.h)] (D.v (Value.bool (sideB g.h))) [] [] ∧ Value.int IntKind.i64 g.h = Value.int IntKind.i64 g.h ∧ ((!sideB g.h) = true → true = true ∧ R (D.v (Value.int IntKind.i64 (50 : Int)), [], [])) ∧ ((!sideB g.h) = false → Con Tryd.prog 115 [] [D.v (Value.int IntKind.i64 g.w)] (D.v (Value.bool (sideB g.w))) [] [] ∧ Value.int IntKind.i64 g.w = Value.int IntKind.i64 g.w ∧ ((!sideB g.w) = true → R (D.v (Value.int IntKind.i64 (50 : Int)), [], [])) ∧ ((!sideB g.w) = false → ((↑g.B.length != IntKind.i64.wrap (g.h * g.w)) = true → true = true ∧ true = true ∧ R (D.v (Value.int IntKind.i64 (51 : Int)), [], [])) ∧ ((↑g.B.length != IntKind.i64.wrap (g.h * g.w)) = false → ((↑g.R.length != IntKind.i64.wrap (g.h * g.w)) = true → true = true ∧ R (D.v (Value.int IntKind.i64 (51 : Int)), [], [])) ∧ ((↑g.R.length != IntKind.i64.wrap (g.h * g.w)) = false → ((↑g.L.length != IntKind.i64.wrap (g.h * g.w)) = true → R (D.v (Value.int IntKind.i64 (51 : Int)), [], [])) ∧ ((↑g.L.length != IntKind.i64.wrap (g.h * g.w)) = false → Con Tryd.prog 116 [] [D.agg [D.v (Value.int IntKind.i64 g.h), D.v (Value.int IntKind.i64 g.w), D.sl false false Ty.bool g.B, D.sl false false Ty.bool g.R, D.sl false false Ty.bool g.L]] (D.v (Value.bool (anyBar g (g.h * g.w).toNat (0 : Int)))) [] [] ∧ Value.int IntKind.i64 g.h = Value.int IntKind.i64 g.h ∧ Value.int IntKind.i64 g.w = Value.int IntKind.i64 g.w ∧ g.B = g.B ∧ g.R = g.R ∧ g.L = g.L ∧ (anyBar g (g.h * g.w).toNat (0 : Int) = true → R (D.v (Value.int IntKind.i64 (52 : Int)), [], [])) ∧ (anyBar g (g.h * g.w).toNat (0 : Int) = false → R (D.v (Value.int IntKind.i64 (0 : Int)), [], [])))))))) hmG Tryd.func80 (by kernel_rfl) (by kernel_rfl) (fun G R => by kernel_rfl) ?_
  try dsimp only
  rcases Bool.eq_false_or_eq_true (sideB g.h) with h1 | h1
  · rcases Bool.eq_false_or_eq_true (sideB g.w) with w1 | w1
    · have ew := hw_wrap h1 w1
      simp (disch := omega) only [h1, w1, ew, wrG, sameK_iff, true_and, and_true, decide_eq_true_eq, decide_eq_false_iff_not, ne_eq, not_false_eq_true, Bool.false_eq_true, Bool.true_eq_false, false_implies, true_implies, Ty.dflt, reduceCtorEq, beq_iff_eq, bne_iff_ne, beq_eq_false_iff_ne, bne_eq_false_iff_eq, Bool.not_eq_true, Bool.not_eq_eq_eq_not, Bool.not_true, Bool.not_false, gt_iff_lt, ge_iff_le, Int.not_lt, Int.not_le]
      repeat' (first | refine And.intro ?_ ?_ | intro _)
      all_goals first | exact d87 g h1 w1 (by simp_all [sizeB3]) | exact h1 ▸ d82 _ | exact w1 ▸ d82 _ | rfl | (simp_all [checkF, sizeB3]; done) | skip
    · simp [checkF, h1, w1]
      exact ⟨h1 ▸ d82 _, w1 ▸ d82 _⟩
  · simp [checkF, h1]
    exact h1 ▸ d82 _

theorem d88 (g : Gr) (i : Int)  : Con Tryd.prog 113 [] [g.d, .v (.int .i64 i)] (.v (.bool (decide (0 ≤ i) && decide (i < (g.B.length : Int)) && !bAt g.B i))) [] [] := by
  refine con_vc (how := [none]) (c := g88) (K := (KK g88)) (spG true) (fun _ => []) (fun _ => []) 400 (.fork (.fork .stop .stop) (.f .stop)) (V := fun G R => (decide (i ≥ (0 : Int)) = true → (decide (i < ↑g.B.length) = true → (0 : Int) ≤ i ∧ i < ↑g.B.length ∧ R (D.v (Value.bool !g.B.getD i.toNat Ty.bool.dflt), [], [])) ∧ (decide (i < ↑g.B.length) = false → R (D.v (Value.bool false), [], []))) ∧ (decide (i ≥ (0 : Int)) = false → false = false ∧ R (D.v (Value.bool false), [], []))) hmG Tryd.func113 (by kernel_rfl) (by kernel_rfl) (fun G R => by kernel_rfl) ?_
  try dsimp only
  simp (disch := omega) only [wrG, sameK_iff, true_and, and_true, decide_eq_true_eq, decide_eq_false_iff_not, ne_eq, not_false_eq_true, Bool.false_eq_true, Bool.true_eq_false, false_implies, true_implies, Ty.dflt, reduceCtorEq, beq_iff_eq, bne_iff_ne, beq_eq_false_iff_ne, bne_eq_false_iff_eq, Bool.not_eq_true, Bool.not_eq_eq_eq_not, Bool.not_true, Bool.not_false, gt_iff_lt, ge_iff_le, Int.not_lt, Int.not_le]
  repeat' (first | refine And.intro ?_ ?_ | intro _)
  all_goals first | rfl | omega | assumption | (simp_all [-List.getD_eq_getElem?_getD, bAt]; done) | (simp_all [-List.getD_eq_getElem?_getD, bAt]; intros; omega) | skip
theorem d45 (g : Gr) (i : Int)  : Con Tryd.prog 78 [] [g.d, .v (.int .i64 i)] (.v (.bool (openF g i))) [] [] := by
  refine con_vc (how := [none]) (c := g45) (K := (KK g45)) (spG true) (fun _ => []) (fun _ => []) 400 (.fork .stop .stop) (V := fun G R => Con Tryd.prog 44 [] [D.agg [D.v (Value.int IntKind.i64 g.h), D.v (Value.int IntKind.i64 g.w), D.sl false false Ty.bool g.B, D.sl false false Ty.bool g.R, D.sl false false Ty.bool g.L]] (D.v (Value.int IntKind.i64 (checkF g))) [] [] ∧ Value.int IntKind.i64 g.h = Value.int IntKind.i64 g.h ∧ Value.int IntKind.i64 g.w = Value.int IntKind.i64 g.w ∧ g.B = g.B ∧ g.R = g.R ∧ g.L = g.L ∧ ((checkF g == (0 : Int)) = true → Con Tryd.prog 113 [] [D.agg [D.v (Value.int IntKind.i64 g.h), D.v (Value.int IntKind.i64 g.w), D.sl false false Ty.bool g.B, D.sl false false Ty.bool g.R, D.sl false false Ty.bool g.L], D.v (Value.int IntKind.i64 i)] (D.v (Value.bool (decide ((0 : Int) ≤ i) && decide (i < ↑g.B.length) && !bAt g.B i))) [] [] ∧ Value.int IntKind.i64 g.h = Value.int IntKind.i64 g.h ∧ Value.int IntKind.i64 g.w = Value.int IntKind.i64 g.w ∧ g.B = g.B ∧ g.R = g.R ∧ g.L = g.L ∧ Value.int IntKind.i64 i = Value.int IntKind.i64 i ∧ R (D.v (Value.bool (decide ((0 : Int) ≤ i) && decide (i < ↑g.B.length) && !bAt g.B i)), [], [])) ∧ ((checkF g == (0 : Int)) = false → R (D.v (Value.bool false), [], []))) hmG Tryd.func78 (by kernel_rfl) (by kernel_rfl) (fun G R => by kernel_rfl) ?_
  try dsimp only
  have s1 : checkF g = 0 → (g.B.length : Int) = g.h * g.w := fun hc => (size3 (chk0.1 hc).2.2.1).1
  repeat' (first | refine And.intro ?_ ?_ | intro _)
  all_goals first | rfl | omega | assumption | exact d43 g | exact d88 g i | (simp_all [-List.getD_eq_getElem?_getD, openF]; done) | (simp_all [-List.getD_eq_getElem?_getD, openF]; intros; omega) | skip
theorem d46 (g : Gr) (i : Int)  : Con Tryd.prog 142 [] [g.d, .v (.int .i64 i)] (.v (.bool (openF g i))) [] [] := by
  refine con_vc (how := [none]) (c := g46) (K := (KK g46)) (spG true) (fun _ => []) (fun _ => []) 400 (.fork (.fork (.fork .stop .stop) (.f .stop)) (.f (.f .stop))) (V := fun G R => Con Tryd.prog 80 [] [D.agg [D.v (Value.int IntKind.i64 g.h), D.v (Value.int IntKind.i64 g.w), D.sl false false Ty.bool g.B, D.sl false false Ty.bool g.R, D.sl false false Ty.bool g.L]] (D.v (Value.int IntKind.i64 (checkF g))) [] [] ∧ Value.int IntKind.i64 g.h = Value.int IntKind.i64 g.h ∧ Value.int IntKind.i64 g.w = Value.int IntKind.i64 g.w ∧ g.B = g.B ∧ g.R = g.R ∧ g.L = g.L ∧ ((checkF g == (0 : Int)) = true → (decide (i ≥ (0 : Int)) = true → (decide (i < IntKind.i64.wrap (g.h * g.w)) = true → (0 : Int) ≤ i ∧ i < ↑g.B.length ∧ R (D.v (Value.bool !g.B.getD i.toNat Ty.bool.dflt), [], [])) ∧ (decide (i < IntKind.i64.wrap (g.h * g.w)) = false → R (D.v (Value.bool false), [], []))) ∧ (decide (i ≥ (0 : Int)) = false → false = false ∧ R (D.v (Value.bool false), [], []))) ∧ ((checkF g == (0 : Int)) = false → false = false ∧ false = false ∧ R (D.v (Value.bool false), [], []))) hmG Tryd.func142 (by kernel_rfl) (by kernel_rfl) (fun G R => by kernel_rfl) ?_
  try dsimp only
  by_cases hc : checkF g = 0
  · obtain ⟨h1, w1, sz, _⟩ := chk0.1 hc
    obtain ⟨s1, _⟩ := size3 sz
    have ew := hw_wrap h1 w1
    simp (disch := omega) only [ew, wrG, sameK_iff, true_and, and_true, decide_eq_true_eq, decide_eq_false_iff_not, ne_eq, not_false_eq_true, Bool.false_eq_true, Bool.true_eq_false, false_implies, true_implies, Ty.dflt, reduceCtorEq, beq_iff_eq, bne_iff_ne, beq_eq_false_iff_ne, bne_eq_false_iff_eq, Bool.not_eq_true, Bool.not_eq_eq_eq_not, Bool.not_true, Bool.not_false, gt_iff_lt, ge_iff_le, Int.not_lt, Int.not_le]
    repeat' (first | refine And.intro ?_ ?_ | intro _)
    all_goals first | rfl | omega | assumption | exact d44 g | (simp_all [-List.getD_eq_getElem?_getD, openF, bAt]; done) | (simp_all [-List.getD_eq_getElem?_getD, openF, bAt]; intros; omega) | skip
  · simp [hc, openF, -List.getD_eq_getElem?_getD]
    exact d44 g
theorem d119   : Con Tryd.prog 114 [] [] (.agg ([0, 1, 1, 0, 0, -1, -1, 0].map fun n => .v (.int .i64 n))) [] [] := by
  refine con_vc (how := [none]) (c := g119) (K := (KK g119)) (spG true) (fun _ => []) (fun _ => []) 400 .stop (V := fun G R => R (D.agg [D.v (Value.int IntKind.i64 (0 : Int)), D.v (Value.int IntKind.i64 (1 : Int)), D.v (Value.int IntKind.i64 (1 : Int)), D.v (Value.int IntKind.i64 (0 : Int)), D.v (Value.int IntKind.i64 (0 : Int)), D.v (Value.int IntKind.i64 (-1 : Int)), D.v (Value.int IntKind.i64 (-1 : Int)), D.v (Value.int IntKind.i64 (0 : Int))], [], [])) hmG Tryd.func114 (by kernel_rfl) (by kernel_rfl) (fun G R => by kernel_rfl) ?_
  try dsimp only
  rfl

end Go.Proofs.YtnakmganodkliaaDoorAm
