/- The contracts of package grid's functions and of its reference's, part five: Same, Blank; the law's own first look. -/
import Derived.Test.YtnakmganodkliaaDoorGrD
set_option linter.unusedVariables false
set_option linter.unusedSimpArgs false
set_option maxRecDepth 100000
namespace Go.Proofs.YtnakmganodkliaaDoorAm
open Go

theorem gr_eq {g k : Gr} : g = k ↔ g.h = k.h ∧ g.w = k.w ∧ g.B = k.B ∧ g.R = k.R ∧ g.L = k.L := by
  cases g; cases k
  simp

/-- The lists are not past counting. -/
def Gr.small (g : Gr) : Prop := g.B.length < 4611686018427387904 ∧ g.R.length < 4611686018427387904 ∧ g.L.length < 4611686018427387904

theorem any_off {g : Gr} (hR : ∀ i, bAt g.R i = false) (hL : ∀ i, bAt g.L i = false) : ∀ (m : Nat) (i : Int), anyBar g m i = false
  | 0, _ => rfl
  | m + 1, i => by simp [anyBar, barred, hR, hL, any_off hR hL m]

theorem bAt_rep (n : Nat) (i : Int) : bAt (List.replicate n false) i = false := by
  unfold bAt
  rw [List.getD_eq_getElem?_getD, List.getElem?_replicate]
  split <;> rfl

theorem chk_blank {h w : Int} {B : List Bool} (h1 : sideB h = true) (w1 : sideB w = true) (hB : (B.length : Int) = h * w) : checkF ⟨h, w, B, List.replicate (h * w).toNat false, List.replicate (h * w).toNat false⟩ = 0 := by
  have := hw_in h1 w1
  rw [chk0]
  refine ⟨h1, w1, ?_, any_off (fun i => bAt_rep _ i) (fun i => bAt_rep _ i) _ _⟩
  simp [sizeB3, hB]
  omega

theorem falses_rep (n : Nat) : falses (List.replicate n false) = n := by
  unfold falses
  rw [List.filter_eq_self.2 (fun a ha => by rw [List.eq_of_mem_replicate ha]; rfl), List.length_replicate]

theorem falses_set (n : Nat) (h : 0 < n) : falses ((List.replicate n false).set 0 true) = n - 1 := by
  cases n with
  | zero => omega
  | succ n =>
    rw [List.replicate_succ, List.set_cons_zero, falses_cons, falses_rep]
    simp

theorem d34 (g k : Gr) (hl : g.small) : Con Tryd.prog 43 [] [g.d, k.d] (.v (.bool (decide (g = k)))) [] [] := by
  refine con_vc (how := [none]) (c := g34) (K := (KK g34)) (spG true) (fun _ => []) (fun _ => []) 400 (.fork (.fork (.fork (.fork .stop .stop) (.f .stop)) (.f (.f .stop))) (.f (.f (.f .stop)))) (V := fun G R => ((g.h == k.h) = true → ((g.w == k.w) = true → Con Tryd.prog 83 [] [D.sl false false Ty.bool g.B, D.sl false false Ty.bool k.B] (D.v (Value.bool (decide (g.B = k.B)))) [] [] ∧ g.B = g.B ∧ k.B = k.B ∧ (decide (g.B = k.B) = true → Con Tryd.prog 83 [] [D.sl false false Ty.bool g.R, D.sl false false Ty.bool k.R] (D.v (Value.bool (decide (g.R = k.R)))) [] [] ∧ g.R = g.R ∧ k.R = k.R ∧ (decide (g.R = k.R) = true → Con Tryd.prog 83 [] [D.sl false false Ty.bool g.L, D.sl false false Ty.bool k.L] (D.v (Value.bool (decide (g.L = k.L)))) [] [] ∧ g.L = g.L ∧ k.L = k.L ∧ R (D.v (Value.bool (decide (g.L = k.L))), [], [])) ∧ (decide (g.R = k.R) = false → R (D.v (Value.bool false), [], []))) ∧ (decide (g.B = k.B) = false → false = false ∧ R (D.v (Value.bool false), [], []))) ∧ ((g.w == k.w) = false → false = false ∧ false = false ∧ R (D.v (Value.bool false), [], []))) ∧ ((g.h == k.h) = false → false = false ∧ false = false ∧ false = false ∧ R (D.v (Value.bool false), [], []))) hmG Tryd.func43 (by kernel_rfl) (by kernel_rfl) (fun G R => by kernel_rfl) ?_
  try dsimp only
  simp (disch := omega) only [wrG, sameK_iff, true_and, and_true, decide_eq_true_eq, decide_eq_false_iff_not, ne_eq, not_false_eq_true, Bool.false_eq_true, Bool.true_eq_false, false_implies, true_implies, Ty.dflt, reduceCtorEq, beq_iff_eq, bne_iff_ne, beq_eq_false_iff_ne, bne_eq_false_iff_eq, Bool.not_eq_true, Bool.not_eq_eq_eq_not, Bool.not_true, Bool.not_false, gt_iff_lt, ge_iff_le, Int.not_lt, Int.not_le]
  repeat' (first | with_reducible refine And.intro ?_ ?_ | intro _)
  all_goals first | rfl | omega | assumption | exact d83 _ _ hl.1 | exact d83 _ _ hl.2.1 | exact d83 _ _ hl.2.2 | (simp_all [-List.getD_eq_getElem?_getD, gr_eq]; done) | (simp_all [-List.getD_eq_getElem?_getD, gr_eq]; intros; omega) | skip
theorem d81 (h w : Int) (h1 : sideB h = true) (w1 : sideB w = true) : Con Tryd.prog 118 [] [.rptr [.v (.int .i64 h)], .rptr [.v (.int .i64 w)]] (.own 0 0 (h * w).toNat (some (h * w).toNat)) [] [.data 4 .bool (List.replicate (h * w).toNat false)] := by
  have ew := hw_wrap h1 w1
  have hw := hw_in h1 w1
  refine con_vc (how := [none]) (c := g81) (K := (KK g81)) (spG true) (fun _ => []) (fun _ => []) 400 .stop (V := fun G R => (0 : Int) ≤ IntKind.i64.wrap (h * w) ∧ IntKind.i64.wrap (h * w) ≤ IntKind.i64.wrap (h * w) ∧ IntKind.i64.wrap (h * w) ≤ (9223372036854775807 : Int) ∧ (IntKind.i64.wrap (h * w)).toNat * 1 ≤ 281474976710656 ∧ R (D.own 0 0 (IntKind.i64.wrap (h * w)).toNat (some (IntKind.i64.wrap (h * w)).toNat), [], [Row.data 4 Ty.bool (List.replicate (IntKind.i64.wrap (h * w)).toNat false)])) hmG Tryd.func118 (by kernel_rfl) (by kernel_rfl) (fun G R => by kernel_rfl) ?_
  try dsimp only
  simp (disch := omega) only [ew, bytes4, wrG, sameK_iff, true_and, and_true, decide_eq_true_eq, decide_eq_false_iff_not, ne_eq, not_false_eq_true, Bool.false_eq_true, Bool.true_eq_false, false_implies, true_implies, Ty.dflt, reduceCtorEq, beq_iff_eq, bne_iff_ne, beq_eq_false_iff_ne, bne_eq_false_iff_eq, Bool.not_eq_true, Bool.not_eq_eq_eq_not, Bool.not_true, Bool.not_false, gt_iff_lt, ge_iff_le, Int.not_lt, Int.not_le]
  repeat' (first | with_reducible refine And.intro ?_ ?_ | intro _)
  all_goals first | rfl | omega | skip
theorem d32 (h w : Int) (h1 : sideB h = true) (w1 : sideB w = true) : Con Tryd.prog 86 [] [.v (.int .i64 h), .v (.int .i64 w)] (.tup [grOwn 0 h w (h * w).toNat (h * w).toNat (h * w).toNat some, .v (.int .i64 0)]) [] (List.replicate 3 (.data 4 .bool (List.replicate (h * w).toNat false))) := by
  have ew := hw_wrap h1 w1
  have hw := hw_in h1 w1
  refine con_vc (how := [none, none]) (c := g32) (K := (KK g32)) (spG true) (fun _ => []) (fun _ => []) 400 (.fork (.t .stop) (.fork .stop .stop)) (V := fun G R => Con Tryd.prog 84 [] [D.v (Value.int IntKind.i64 h)] (D.v (Value.bool (sideB h))) [] [] ∧ Value.int IntKind.i64 h = Value.int IntKind.i64 h ∧ ((!sideB h) = true → true = true ∧ R (D.tup [D.agg [D.v (Value.int IntKind.i64 (0 : Int)), D.v (Value.int IntKind.i64 (0 : Int)), D.v (Value.slice none 0 0), D.v (Value.slice none 0 0), D.v (Value.slice none 0 0)], D.v (Value.int IntKind.i64 (50 : Int))], [], [])) ∧ ((!sideB h) = false → Con Tryd.prog 84 [] [D.v (Value.int IntKind.i64 w)] (D.v (Value.bool (sideB w))) [] [] ∧ Value.int IntKind.i64 w = Value.int IntKind.i64 w ∧ ((!sideB w) = true → R (D.tup [D.agg [D.v (Value.int IntKind.i64 (0 : Int)), D.v (Value.int IntKind.i64 (0 : Int)), D.v (Value.slice none 0 0), D.v (Value.slice none 0 0), D.v (Value.slice none 0 0)], D.v (Value.int IntKind.i64 (50 : Int))], [], [])) ∧ ((!sideB w) = false → Con Tryd.prog 118 [] [D.rptr [D.v (Value.int IntKind.i64 h)], D.rptr [D.v (Value.int IntKind.i64 w)]] (D.own 0 0 (h * w).toNat (some (h * w).toNat)) [] [Row.data 4 Ty.bool (List.replicate (h * w).toNat false)] ∧ Value.int IntKind.i64 h = Value.int IntKind.i64 h ∧ Value.int IntKind.i64 w = Value.int IntKind.i64 w ∧ Con Tryd.prog 118 [] [D.rptr [D.v (Value.int IntKind.i64 h)], D.rptr [D.v (Value.int IntKind.i64 w)]] (D.own 0 0 (h * w).toNat (some (h * w).toNat)) [] [Row.data 4 Ty.bool (List.replicate (h * w).toNat false)] ∧ Value.int IntKind.i64 h = Value.int IntKind.i64 h ∧ Value.int IntKind.i64 w = Value.int IntKind.i64 w ∧ Con Tryd.prog 118 [] [D.rptr [D.v (Value.int IntKind.i64 h)], D.rptr [D.v (Value.int IntKind.i64 w)]] (D.own 0 0 (h * w).toNat (some (h * w).toNat)) [] [Row.data 4 Ty.bool (List.replicate (h * w).toNat false)] ∧ Value.int IntKind.i64 h = Value.int IntKind.i64 h ∧ Value.int IntKind.i64 w = Value.int IntKind.i64 w ∧ R (D.tup [D.agg [D.v (Value.int IntKind.i64 h), D.v (Value.int IntKind.i64 w), D.own 0 0 (h * w).toNat (some (h * w).toNat), D.own 1 0 (h * w).toNat (some (h * w).toNat), D.own 2 0 (h * w).toNat (some (h * w).toNat)], D.v (Value.int IntKind.i64 (0 : Int))], [], [Row.data 4 Ty.bool (List.replicate (h * w).toNat false), Row.data 4 Ty.bool (List.replicate (h * w).toNat false), Row.data 4 Ty.bool (List.replicate (h * w).toNat false)])))) hmG Tryd.func86 (by kernel_rfl) (by kernel_rfl) (fun G R => by kernel_rfl) ?_
  try dsimp only
  simp (disch := omega) only [h1, w1, ew, bytes4, wrG, sameK_iff, true_and, and_true, decide_eq_true_eq, decide_eq_false_iff_not, ne_eq, not_false_eq_true, Bool.false_eq_true, Bool.true_eq_false, false_implies, true_implies, Ty.dflt, reduceCtorEq, beq_iff_eq, bne_iff_ne, beq_eq_false_iff_ne, bne_eq_false_iff_eq, Bool.not_eq_true, Bool.not_eq_eq_eq_not, Bool.not_true, Bool.not_false, gt_iff_lt, ge_iff_le, Int.not_lt, Int.not_le]
  repeat' (first | with_reducible refine And.intro ?_ ?_ | intro _)
  all_goals first | rfl | omega | exact d81 h w h1 w1 | (have := d80 h; rwa [h1] at this) | (have := d80 w; rwa [w1] at this) | skip
theorem d32_off (h w : Int) (hb : (sideB h && sideB w) = false) : Con Tryd.prog 86 [] [.v (.int .i64 h), .v (.int .i64 w)] (.tup [nilG, .v (.int .i64 50)]) [] [] := by
  refine con_vc (how := [none, none]) (c := g32) (K := (KK g32)) (spG true) (fun _ => []) (fun _ => []) 400 (.fork (.t .stop) (.fork .stop .stop)) (V := fun G R => Con Tryd.prog 84 [] [D.v (Value.int IntKind.i64 h)] (D.v (Value.bool (sideB h))) [] [] ∧ Value.int IntKind.i64 h = Value.int IntKind.i64 h ∧ ((!sideB h) = true → true = true ∧ R (D.tup [D.agg [D.v (Value.int IntKind.i64 (0 : Int)), D.v (Value.int IntKind.i64 (0 : Int)), D.v (Value.slice none 0 0), D.v (Value.slice none 0 0), D.v (Value.slice none 0 0)], D.v (Value.int IntKind.i64 (50 : Int))], [], [])) ∧ ((!sideB h) = false → Con Tryd.prog 84 [] [D.v (Value.int IntKind.i64 w)] (D.v (Value.bool (sideB w))) [] [] ∧ Value.int IntKind.i64 w = Value.int IntKind.i64 w ∧ ((!sideB w) = true → R (D.tup [D.agg [D.v (Value.int IntKind.i64 (0 : Int)), D.v (Value.int IntKind.i64 (0 : Int)), D.v (Value.slice none 0 0), D.v (Value.slice none 0 0), D.v (Value.slice none 0 0)], D.v (Value.int IntKind.i64 (50 : Int))], [], [])) ∧ ((!sideB w) = false → Con Tryd.prog 118 [] [D.rptr [D.v (Value.int IntKind.i64 h)], D.rptr [D.v (Value.int IntKind.i64 w)]] (D.own 0 0 (h * w).toNat (some (h * w).toNat)) [] [Row.data 4 Ty.bool (List.replicate (h * w).toNat false)] ∧ Value.int IntKind.i64 h = Value.int IntKind.i64 h ∧ Value.int IntKind.i64 w = Value.int IntKind.i64 w ∧ Con Tryd.prog 118 [] [D.rptr [D.v (Value.int IntKind.i64 h)], D.rptr [D.v (Value.int IntKind.i64 w)]] (D.own 0 0 (h * w).toNat (some (h * w).toNat)) [] [Row.data 4 Ty.bool (List.replicate (h * w).toNat false)] ∧ Value.int IntKind.i64 h = Value.int IntKind.i64 h ∧ Value.int IntKind.i64 w = Value.int IntKind.i64 w ∧ Con Tryd.prog 118 [] [D.rptr [D.v (Value.int IntKind.i64 h)], D.rptr [D.v (Value.int IntKind.i64 w)]] (D.own 0 0 (h * w).toNat (some (h * w).toNat)) [] [Row.data 4 Ty.bool (List.replicate (h * w).toNat false)] ∧ Value.int IntKind.i64 h = Value.int IntKind.i64 h ∧ Value.int IntKind.i64 w = Value.int IntKind.i64 w ∧ R (D.tup [D.agg [D.v (Value.int IntKind.i64 h), D.v (Value.int IntKind.i64 w), D.own 0 0 (h * w).toNat (some (h * w).toNat), D.own 1 0 (h * w).toNat (some (h * w).toNat), D.own 2 0 (h * w).toNat (some (h * w).toNat)], D.v (Value.int IntKind.i64 (0 : Int))], [], [Row.data 4 Ty.bool (List.replicate (h * w).toNat false), Row.data 4 Ty.bool (List.replicate (h * w).toNat false), Row.data 4 Ty.bool (List.replicate (h * w).toNat false)])))) hmG Tryd.func86 (by kernel_rfl) (by kernel_rfl) (fun G R => by kernel_rfl) ?_
  try dsimp only
  simp (disch := omega) only [wrG, sameK_iff, true_and, and_true, decide_eq_true_eq, decide_eq_false_iff_not, ne_eq, not_false_eq_true, Bool.false_eq_true, Bool.true_eq_false, false_implies, true_implies, Ty.dflt, reduceCtorEq, beq_iff_eq, bne_iff_ne, beq_eq_false_iff_ne, bne_eq_false_iff_eq, Bool.not_eq_true, Bool.not_eq_eq_eq_not, Bool.not_true, Bool.not_false, gt_iff_lt, ge_iff_le, Int.not_lt, Int.not_le]
  repeat' (first | with_reducible refine And.intro ?_ ?_ | intro _)
  all_goals first | rfl | exact d80 _ | (simp_all; done) | skip