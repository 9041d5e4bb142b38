/- What the law of narrowing leans on: the logic and the contracts of the functions that it calls (part 4) -/
import Derived.WalkKit
import Derived.Test.YtnakmganodkliaaPc
set_option linter.unusedVariables false
set_option linter.unusedSimpArgs false
set_option maxRecDepth 100000
namespace Go.Proofs.YtnakmganodkliaaAm
open Go
theorem head_facts {g : Gr} {y : Int} (hy : y = 0 ∨ y = 1) : ∀ (m : Nat) (i : Int), 0 ≤ i → 0 ≤ headOf g y m i ∧ headOf g y m i ≤ i
  | 0, i, i0 => by simp [headOf, i0]
  | m + 1, i, i0 => by
    simp only [headOf]
    split
    · rename_i h
      have hf := step_facts h
      have hj := open_in hf.2.1
      have := head_facts (g := g) hy m (stepF g i (y + 2)).1 hj.2.1
      have := hf.2.2.2.2.2.1 (by omega)
      omega
    · omega
theorem head_iff {g : Gr} {y i : Int} (hy : y = 0 ∨ y = 1) (i0 : 0 ≤ i) : (headOf g y 256 i == i) = !(stepF g i (y + 2)).2 := by
  rcases Bool.eq_false_or_eq_true (stepF g i (y + 2)).2 with h | h
  · have hf := step_facts h
    have hj := open_in hf.2.1
    have h1 := head_facts (g := g) hy 255 (stepF g i (y + 2)).1 hj.2.1
    have h2 := hf.2.2.2.2.2.1 (by omega)
    have e : headOf g y 256 i = headOf g y 255 (stepF g i (y + 2)).1 := by
      show (if _ then _ else _) = _
      rw [if_pos h]
    rw [h, e]
    simp only [Bool.not_true, beq_eq_false_iff_ne, ne_eq]
    omega
  · have e : headOf g y 256 i = i := by
      show (if _ then _ else _) = _
      rw [h]
      rfl
    rw [h, e]
    simp
theorem run_pos (g : Gr) (y h : Int) : 0 < (runOn g y h).length := by simp [runOn]
theorem run_posI (g : Gr) (y h : Int) : (0 : Int) < ((runOn g y h).length : Int) := by have := run_pos g y h; omega
theorem run_long {g : Gr} {y i : Int} : decide (((runOn g y i).length : Int) > 1) = (stepF g i y).2 := by
  rcases Bool.eq_false_or_eq_true (stepF g i y).2 with h | h
  · rw [h]
    have e : onT g y 256 i = (stepF g i y).1 :: onT g y 255 (stepF g i y).1 := by
      show (if _ then _ else _) = _
      rw [if_pos h]
    refine decide_eq_true ?_
    unfold runOn
    rw [e]
    simp only [List.length_cons]
    omega
  · rw [h]
    have e : onT g y 256 i = [] := by
      show (if _ then _ else _) = _
      rw [h]
      rfl
    refine decide_eq_false ?_
    unfold runOn
    rw [e]
    simp
theorem e125_1f (g : Gr) (i y : Int) (xs : List Int) : GetsK Try.prog Try.f125.results.toList [none] (KK q125) 0 (.own 0 0 xs.length none, [], [.data 3 (.int .i64) xs]) 1 (stOf 40 [1,3,7,11,12] [.v (.int .i64 i), .ptr 0 0 0, .v (.int .i64 y), .own 1 0 xs.length none, .v (.bool false)] [.live (.box 35 [.v (.int .i64 g.h), .v (.int .i64 g.w), .sl false false .bool g.B, .sl false false .bool g.R, .sl false false .bool g.L]), .live (.data 3 (.int .i64) xs)]) := by
  refine gets_vc spL (fun k => [[1,3,7,8,9],[1,3,7,11,12]].getD k []) (fun k => if k = 1 then [⟨11, 3, .int .i64⟩] else if k = 99 then [⟨6, 3, .int .i64⟩] else []) 400 (.fork (.fork (.hd 1) (.hd 1)) .stop) (V := fun G R => let yy0 := (Row.box 35 [D.v (Value.int IntKind.i64 g.h), D.v (Value.int IntKind.i64 g.w), D.sl false false Ty.bool g.B, D.sl false false Ty.bool g.R, D.sl false false Ty.bool g.L]); let yy1 := (Value.int IntKind.i64 (stepF g i y).fst); (false = true → Con Try.prog 38 [] [D.agg [D.v (Value.int IntKind.i64 g.h), D.v (Value.int IntKind.i64 g.w), D.sl false false Ty.bool g.B, D.sl false false Ty.bool g.R, D.sl false false Ty.bool g.L], D.v (Value.int IntKind.i64 i), D.v (Value.int IntKind.i64 y)] (D.tup [D.v yy1, D.v (Value.bool (stepF g i y).snd)]) [] [] ∧ Value.int IntKind.i64 g.h = Value.int IntKind.i64 g.h ∧ Value.int IntKind.i64 g.w = Value.int IntKind.i64 g.w ∧ g.B = g.B ∧ g.R = g.R ∧ g.L = g.L ∧ Value.int IntKind.i64 i = Value.int IntKind.i64 i ∧ Value.int IntKind.i64 y = Value.int IntKind.i64 y ∧ ((stepF g i y).snd = true → roomy Try.prog 3 (xs.length + 1) ∧ SameK (KK q125 1) (KK q125 1) ∧ G 1 (stOf 40 [1, 3, 7, 11, 12] [D.v yy1, D.ptr 0 0 0, D.v (Value.int IntKind.i64 y), D.own 1 0 (xs.length + 1) none, D.v (Value.bool (stepF g i y).snd)] [Slot.live yy0, Slot.live (Row.data 3 (Ty.int IntKind.i64) (List.take xs.length (List.drop 0 xs) ++ List.take 1 (List.drop 0 [(stepF g i y).fst])))])) ∧ ((stepF g i y).snd = false → SameK (KK q125 1) (KK q125 1) ∧ G 1 (stOf 40 [1, 3, 7, 11, 12] [D.v yy1, D.ptr 0 0 0, D.v (Value.int IntKind.i64 y), D.own 1 0 xs.length none, D.v (Value.bool (stepF g i y).snd)] [Slot.live yy0, Slot.live (Row.data 3 (Ty.int IntKind.i64) xs)]))) ∧ (false = false → R (D.own 0 0 xs.length none, [], [Row.data 3 (Ty.int IntKind.i64) xs]))) hmG (fun G R => by kernel_rfl) ?_
  try dsimp only
  simp (disch := omega) only [wrG, sameK_iff, true_and, and_true, decide_eq_true_eq, decide_eq_false_iff_not, ne_eq, not_false_eq_true, Bool.false_eq_true, Bool.true_eq_false, false_implies, true_implies, Ty.dflt, reduceCtorEq, beq_iff_eq, bne_iff_ne, beq_eq_false_iff_ne, bne_eq_false_iff_eq, Bool.not_eq_true, Bool.not_eq_eq_eq_not, Bool.not_true, Bool.not_false, gt_iff_lt, ge_iff_le, Int.not_lt, Int.not_le]
  repeat' (first | with_reducible refine And.intro ?_ ?_ | intro _)
  all_goals first | rfl | omega | assumption | trivial | exact room3 (by omega) | (exfalso; simp_all; done) | skip
def vq7 (g : Gr) (y : Int) (i : Int) (xs : List Int) (G : Nat → St → Prop) (R : D × List (Option Row) × List Row → Prop) : Prop := let yy0 := (Row.box 35 [D.v (Value.int IntKind.i64 g.h), D.v (Value.int IntKind.i64 g.w), D.sl false false Ty.bool g.B, D.sl false false Ty.bool g.R, D.sl false false Ty.bool g.L]); let yy1 := (Value.int IntKind.i64 (stepF g i y).fst); (true = true → Con Try.prog 38 [] [D.agg [D.v (Value.int IntKind.i64 g.h), D.v (Value.int IntKind.i64 g.w), D.sl false false Ty.bool g.B, D.sl false false Ty.bool g.R, D.sl false false Ty.bool g.L], D.v (Value.int IntKind.i64 i), D.v (Value.int IntKind.i64 y)] (D.tup [D.v yy1, D.v (Value.bool (stepF g i y).snd)]) [] [] ∧ Value.int IntKind.i64 g.h = Value.int IntKind.i64 g.h ∧ Value.int IntKind.i64 g.w = Value.int IntKind.i64 g.w ∧ g.B = g.B ∧ g.R = g.R ∧ g.L = g.L ∧ Value.int IntKind.i64 i = Value.int IntKind.i64 i ∧ Value.int IntKind.i64 y = Value.int IntKind.i64 y ∧ ((stepF g i y).snd = true → roomy Try.prog 3 (xs.length + 1) ∧ SameK (KK q125 1) (KK q125 1) ∧ G 1 (stOf 40 [1, 3, 7, 11, 12] [D.v yy1, D.ptr 0 0 0, D.v (Value.int IntKind.i64 y), D.own 1 0 (xs.length + 1) none, D.v (Value.bool (stepF g i y).snd)] [Slot.live yy0, Slot.live (Row.data 3 (Ty.int IntKind.i64) (List.take xs.length (List.drop 0 xs) ++ List.take 1 (List.drop 0 [(stepF g i y).fst])))])) ∧ ((stepF g i y).snd = false → SameK (KK q125 1) (KK q125 1) ∧ G 1 (stOf 40 [1, 3, 7, 11, 12] [D.v yy1, D.ptr 0 0 0, D.v (Value.int IntKind.i64 y), D.own 1 0 xs.length none, D.v (Value.bool (stepF g i y).snd)] [Slot.live yy0, Slot.live (Row.data 3 (Ty.int IntKind.i64) xs)]))) ∧ (true = false → R (D.own 0 0 xs.length none, [], [Row.data 3 (Ty.int IntKind.i64) xs]))
theorem e125_1 (g : Gr) (y : Int) (zs : List Int) (hy : y = 0 ∨ y = 1) (m : Nat) : m ≤ 256 → ∀ (i : Int) (xs : List Int), g.h * g.w - i ≤ m → xs.length + m ≤ 300 → xs ++ onT g y m i = zs → GetsK Try.prog Try.f125.results.toList [none] (KK q125) 0 (.own 0 0 zs.length none, [], [.data 3 (.int .i64) zs]) 1 (stOf 40 [1,3,7,11,12] [.v (.int .i64 i), .ptr 0 0 0, .v (.int .i64 y), .own 1 0 xs.length none, .v (.bool true)] [.live (.box 35 [.v (.int .i64 g.h), .v (.int .i64 g.w), .sl false false .bool g.B, .sl false false .bool g.R, .sl false false .bool g.L]), .live (.data 3 (.int .i64) xs)]) := by
  induction m with
  | zero =>
    intro hm i xs hi hl hz
    have hn := no_step (g := g) (i := i) (y := y) (by omega)
    have c := d38 g i y
    rw [hn] at c
    simp only [onT, List.append_nil] at hz
    subst hz
    have hx := e125_1f g (stepF g i y).1 y xs
    refine gets_vc spL (fun k => [[1,3,7,8,9],[1,3,7,11,12]].getD k []) (fun k => if k = 1 then [⟨11, 3, .int .i64⟩] else if k = 99 then [⟨6, 3, .int .i64⟩] else []) 400 (.fork (.fork (.hd 1) (.hd 1)) .stop) (V := vq7 g y i xs) hmG (fun G R => by kernel_rfl) ?_
    unfold vq7
    try dsimp only
    rw [hn]
    simp (disch := omega) only [wrG, sameK_iff, true_and, and_true, decide_eq_true_eq, decide_eq_false_iff_not, ne_eq, not_false_eq_true, Bool.false_eq_true, Bool.true_eq_false, false_implies, true_implies, Ty.dflt, reduceCtorEq, beq_iff_eq, bne_iff_ne, beq_eq_false_iff_ne, bne_eq_false_iff_eq, Bool.not_eq_true, Bool.not_eq_eq_eq_not, Bool.not_true, Bool.not_false, gt_iff_lt, ge_iff_le, Int.not_lt, Int.not_le]
    repeat' (first | with_reducible refine And.intro ?_ ?_ | intro _)
    all_goals first | rfl | omega | assumption | trivial | exact room3 (by omega) | (exfalso; simp_all; done) | skip
  | succ m ih =>
    intro hm i xs hi hl hz
    have c := d38 g i y
    simp only [onT] at hz
    refine gets_vc spL (fun k => [[1,3,7,8,9],[1,3,7,11,12]].getD k []) (fun k => if k = 1 then [⟨11, 3, .int .i64⟩] else if k = 99 then [⟨6, 3, .int .i64⟩] else []) 400 (.fork (.fork (.hd 1) (.hd 1)) .stop) (V := vq7 g y i xs) hmG (fun G R => by kernel_rfl) ?_
    unfold vq7
    try dsimp only
    simp only [take_len]
    rcases Bool.eq_false_or_eq_true (stepF g i y).2 with h | h <;> simp only [h, if_true, Bool.false_eq_true, if_false, List.append_nil] at hz
    · have hf := (step_facts h).2.2.2.2.1 (by omega)
      have hx := ih (by omega) (stepF g i y).1 (xs ++ [(stepF g i y).1]) (by omega) (by simp; omega) (by rw [← hz]; simp)
      rw [List.length_append] at hx
      rw [h] at c ⊢
      simp (disch := omega) only [wrG, sameK_iff, true_and, and_true, decide_eq_true_eq, decide_eq_false_iff_not, ne_eq, not_false_eq_true, Bool.false_eq_true, Bool.true_eq_false, false_implies, true_implies, Ty.dflt, reduceCtorEq, beq_iff_eq, bne_iff_ne, beq_eq_false_iff_ne, bne_eq_false_iff_eq, Bool.not_eq_true, Bool.not_eq_eq_eq_not, Bool.not_true, Bool.not_false, gt_iff_lt, ge_iff_le, Int.not_lt, Int.not_le]
      repeat' (first | with_reducible refine And.intro ?_ ?_ | intro _)
      all_goals first | rfl | omega | assumption | trivial | exact room3 (by omega) | (exfalso; simp_all; done) | skip
    · subst hz
      have hx := e125_1f g (stepF g i y).1 y xs
      rw [h] at c ⊢
      simp (disch := omega) only [wrG, sameK_iff, true_and, and_true, decide_eq_true_eq, decide_eq_false_iff_not, ne_eq, not_false_eq_true, Bool.false_eq_true, Bool.true_eq_false, false_implies, true_implies, Ty.dflt, reduceCtorEq, beq_iff_eq, bne_iff_ne, beq_eq_false_iff_ne, bne_eq_false_iff_eq, Bool.not_eq_true, Bool.not_eq_eq_eq_not, Bool.not_true, Bool.not_false, gt_iff_lt, ge_iff_le, Int.not_lt, Int.not_le]
      repeat' (first | with_reducible refine And.intro ?_ ?_ | intro _)
      all_goals first | rfl | omega | assumption | trivial | exact room3 (by omega) | (exfalso; simp_all; done) | skip
theorem e125_0f (g : Gr) (i y b : Int) (hc : checkF g = 0) (hy : y = 0 ∨ y = 1) (i0 : 0 ≤ i) : GetsK Try.prog Try.f125.results.toList [none] (KK q125) 0 (.own 0 0 (runOn g y i).length none, [], [.data 3 (.int .i64) (runOn g y i)]) 0 (stOf 40 [1,3,7,8,9] [.v (.int .i64 i), .ptr 0 0 0, .v (.int .i64 y), .v (.int .i64 b), .v (.bool false)] [.live (.box 35 [.v (.int .i64 g.h), .v (.int .i64 g.w), .sl false false .bool g.B, .sl false false .bool g.R, .sl false false .bool g.L])]) := by
  have hw := hw_in (chk0.1 hc).1 (chk0.1 hc).2.1
  have hx := e125_1 g y (runOn g y i) hy 256 (by omega) i [i] (by omega) (by simp) rfl
  refine gets_vc spL (fun k => [[1,3,7,8,9],[1,3,7,11,12]].getD k []) (fun k => if k = 1 then [⟨11, 3, .int .i64⟩] else if k = 99 then [⟨6, 3, .int .i64⟩] else []) 400 (.fork (.fork (.hd 0) (.hd 0)) (.hd 1)) (V := fun G R => let yy0 := (Row.box 35 [D.v (Value.int IntKind.i64 g.h), D.v (Value.int IntKind.i64 g.w), D.sl false false Ty.bool g.B, D.sl false false Ty.bool g.R, D.sl false false Ty.bool g.L]); (false = true → Con Try.prog 38 [] [D.agg [D.v (Value.int IntKind.i64 g.h), D.v (Value.int IntKind.i64 g.w), D.sl false false Ty.bool g.B, D.sl false false Ty.bool g.R, D.sl false false Ty.bool g.L], D.v (Value.int IntKind.i64 i), D.v (Value.int IntKind.i64 b)] (D.tup [D.v (Value.int IntKind.i64 (stepF g i b).fst), D.v (Value.bool (stepF g i b).snd)]) [] [] ∧ Value.int IntKind.i64 g.h = Value.int IntKind.i64 g.h ∧ Value.int IntKind.i64 g.w = Value.int IntKind.i64 g.w ∧ g.B = g.B ∧ g.R = g.R ∧ g.L = g.L ∧ Value.int IntKind.i64 i = Value.int IntKind.i64 i ∧ Value.int IntKind.i64 b = Value.int IntKind.i64 b ∧ ((stepF g i b).snd = true → SameK (KK q125 0) (KK q125 0) ∧ G 0 (stOf 40 [1, 3, 7, 8, 9] [D.v (Value.int IntKind.i64 (stepF g i b).fst), D.ptr 0 0 0, D.v (Value.int IntKind.i64 y), D.v (Value.int IntKind.i64 b), D.v (Value.bool (stepF g i b).snd)] [Slot.live yy0])) ∧ ((stepF g i b).snd = false → SameK (KK q125 0) (KK q125 0) ∧ G 0 (stOf 40 [1, 3, 7, 8, 9] [D.v (Value.int IntKind.i64 i), D.ptr 0 0 0, D.v (Value.int IntKind.i64 y), D.v (Value.int IntKind.i64 b), D.v (Value.bool (stepF g i b).snd)] [Slot.live yy0]))) ∧ (false = false → SameK (KK q125 1) (KK q125 1) ∧ G 1 (stOf 40 [1, 3, 7, 11, 12] [D.v (Value.int IntKind.i64 i), D.ptr 0 0 0, D.v (Value.int IntKind.i64 y), D.own 1 0 1 none, D.v (Value.bool true)] [Slot.live yy0, Slot.live (Row.data 3 (Ty.int IntKind.i64) [i])]))) hmG (fun G R => by kernel_rfl) ?_
  try dsimp only
  simp (disch := omega) only [wrG, sameK_iff, true_and, and_true, decide_eq_true_eq, decide_eq_false_iff_not, ne_eq, not_false_eq_true, Bool.false_eq_true, Bool.true_eq_false, false_implies, true_implies, Ty.dflt, reduceCtorEq, beq_iff_eq, bne_iff_ne, beq_eq_false_iff_ne, bne_eq_false_iff_eq, Bool.not_eq_true, Bool.not_eq_eq_eq_not, Bool.not_true, Bool.not_false, gt_iff_lt, ge_iff_le, Int.not_lt, Int.not_le]
  repeat' (first | with_reducible refine And.intro ?_ ?_ | intro _)
  all_goals first | rfl | omega | assumption | trivial | exact room3 (by omega) | (exfalso; simp_all; done) | skip
def vq8 (g : Gr) (y : Int) (i : Int) (G : Nat → St → Prop) (R : D × List (Option Row) × List Row → Prop) : Prop := let yy0 := (Row.box 35 [D.v (Value.int IntKind.i64 g.h), D.v (Value.int IntKind.i64 g.w), D.sl false false Ty.bool g.B, D.sl false false Ty.bool g.R, D.sl false false Ty.bool g.L]); let yy1 := (stepF g i (y + (2 : Int))); let yy2 := (Value.int IntKind.i64 (y + (2 : Int))); (true = true → Con Try.prog 38 [] [D.agg [D.v (Value.int IntKind.i64 g.h), D.v (Value.int IntKind.i64 g.w), D.sl false false Ty.bool g.B, D.sl false false Ty.bool g.R, D.sl false false Ty.bool g.L], D.v (Value.int IntKind.i64 i), D.v yy2] (D.tup [D.v (Value.int IntKind.i64 yy1.fst), D.v (Value.bool yy1.snd)]) [] [] ∧ Value.int IntKind.i64 g.h = Value.int IntKind.i64 g.h ∧ Value.int IntKind.i64 g.w = Value.int IntKind.i64 g.w ∧ g.B = g.B ∧ g.R = g.R ∧ g.L = g.L ∧ Value.int IntKind.i64 i = Value.int IntKind.i64 i ∧ Value.int IntKind.i64 (y + (2 : Int)) = Value.int IntKind.i64 (y + (2 : Int)) ∧ (yy1.snd = true → SameK (KK q125 0) (KK q125 0) ∧ G 0 (stOf 40 [1, 3, 7, 8, 9] [D.v (Value.int IntKind.i64 yy1.fst), D.ptr 0 0 0, D.v (Value.int IntKind.i64 y), D.v yy2, D.v (Value.bool yy1.snd)] [Slot.live yy0])) ∧ (yy1.snd = false → SameK (KK q125 0) (KK q125 0) ∧ G 0 (stOf 40 [1, 3, 7, 8, 9] [D.v (Value.int IntKind.i64 i), D.ptr 0 0 0, D.v (Value.int IntKind.i64 y), D.v yy2, D.v (Value.bool yy1.snd)] [Slot.live yy0]))) ∧ (true = false → SameK (KK q125 1) (KK q125 1) ∧ G 1 (stOf 40 [1, 3, 7, 11, 12] [D.v (Value.int IntKind.i64 i), D.ptr 0 0 0, D.v (Value.int IntKind.i64 y), D.own 1 0 1 none, D.v (Value.bool true)] [Slot.live yy0, Slot.live (Row.data 3 (Ty.int IntKind.i64) [i])]))
theorem e125_0 (g : Gr) (y b : Int) (zs : List Int) (hc : checkF g = 0) (hy : y = 0 ∨ y = 1) (hb : b = y + 2) (m : Nat) : ∀ (i : Int), 0 ≤ i → i ≤ m → runOn g y (headOf g y m i) = zs → GetsK Try.prog Try.f125.results.toList [none] (KK q125) 0 (.own 0 0 zs.length none, [], [.data 3 (.int .i64) zs]) 0 (stOf 40 [1,3,7,8,9] [.v (.int .i64 i), .ptr 0 0 0, .v (.int .i64 y), .v (.int .i64 b), .v (.bool true)] [.live (.box 35 [.v (.int .i64 g.h), .v (.int .i64 g.w), .sl false false .bool g.B, .sl false false .bool g.R, .sl false false .bool g.L])]) := by
  subst hb
  induction m with
  | zero =>
    intro i i0 hi hz
    have hn : (stepF g i (y + 2)).2 = false := by
      rcases Bool.eq_false_or_eq_true (stepF g i (y + 2)).2 with h | h
      · have hf := step_facts h
        have h1 := (open_in hf.2.1).2.1
        have h2 := hf.2.2.2.2.2.1 (by omega)
        omega
      · exact h
    have c := d38 g i (y + 2)
    rw [hn] at c
    simp only [headOf] at hz
    subst hz
    have hx := e125_0f g i y (y + 2) hc hy i0
    refine gets_vc spL (fun k => [[1,3,7,8,9],[1,3,7,11,12]].getD k []) (fun k => if k = 1 then [⟨11, 3, .int .i64⟩] else if k = 99 then [⟨6, 3, .int .i64⟩] else []) 400 (.fork (.fork (.hd 0) (.hd 0)) (.hd 1)) (V := vq8 g y i) hmG (fun G R => by kernel_rfl) ?_
    unfold vq8
    try dsimp only
    rw [hn]
    simp (disch := omega) only [wrG, sameK_iff, true_and, and_true, decide_eq_true_eq, decide_eq_false_iff_not, ne_eq, not_false_eq_true, Bool.false_eq_true, Bool.true_eq_false, false_implies, true_implies, Ty.dflt, reduceCtorEq, beq_iff_eq, bne_iff_ne, beq_eq_false_iff_ne, bne_eq_false_iff_eq, Bool.not_eq_true, Bool.not_eq_eq_eq_not, Bool.not_true, Bool.not_false, gt_iff_lt, ge_iff_le, Int.not_lt, Int.not_le]
    repeat' (first | with_reducible refine And.intro ?_ ?_ | intro _)
    all_goals first | rfl | omega | assumption | trivial | exact room3 (by omega) | (exfalso; simp_all; done) | skip
  | succ m ih =>
    intro i i0 hi hz
    have c := d38 g i (y + 2)
    simp only [headOf] at hz
    refine gets_vc spL (fun k => [[1,3,7,8,9],[1,3,7,11,12]].getD k []) (fun k => if k = 1 then [⟨11, 3, .int .i64⟩] else if k = 99 then [⟨6, 3, .int .i64⟩] else []) 400 (.fork (.fork (.hd 0) (.hd 0)) (.hd 1)) (V := vq8 g y i) hmG (fun G R => by kernel_rfl) ?_
    unfold vq8
    try dsimp only
    rcases Bool.eq_false_or_eq_true (stepF g i (y + 2)).2 with h | h <;> simp only [h, if_true, Bool.false_eq_true, if_false] at hz
    · have hf := step_facts h
      have h1 := (open_in hf.2.1).2.1
      have h2 := hf.2.2.2.2.2.1 (by omega)
      have hx := ih (stepF g i (y + 2)).1 h1 (by omega) hz
      rw [h] at c ⊢
      simp (disch := omega) only [wrG, sameK_iff, true_and, and_true, decide_eq_true_eq, decide_eq_false_iff_not, ne_eq, not_false_eq_true, Bool.false_eq_true, Bool.true_eq_false, false_implies, true_implies, Ty.dflt, reduceCtorEq, beq_iff_eq, bne_iff_ne, beq_eq_false_iff_ne, bne_eq_false_iff_eq, Bool.not_eq_true, Bool.not_eq_eq_eq_not, Bool.not_true, Bool.not_false, gt_iff_lt, ge_iff_le, Int.not_lt, Int.not_le]
      repeat' (first | with_reducible refine And.intro ?_ ?_ | intro _)
      all_goals first | rfl | omega | assumption | trivial | exact room3 (by omega) | (exfalso; simp_all; done) | skip
    · subst hz
      have hx := e125_0f g i y (y + 2) hc hy i0
      rw [h] at c ⊢
      simp (disch := omega) only [wrG, sameK_iff, true_and, and_true, decide_eq_true_eq, decide_eq_false_iff_not, ne_eq, not_false_eq_true, Bool.false_eq_true, Bool.true_eq_false, false_implies, true_implies, Ty.dflt, reduceCtorEq, beq_iff_eq, bne_iff_ne, beq_eq_false_iff_ne, bne_eq_false_iff_eq, Bool.not_eq_true, Bool.not_eq_eq_eq_not, Bool.not_true, Bool.not_false, gt_iff_lt, ge_iff_le, Int.not_lt, Int.not_le]
      repeat' (first | with_reducible refine And.intro ?_ ?_ | intro _)
      all_goals first | rfl | omega | assumption | trivial | exact room3 (by omega) | (exfalso; simp_all; done) | skip
theorem d125 (g : Gr) (i : Int) (d : Bool) (hc : checkF g = 0) (i0 : 0 ≤ i) (hi : i ≤ 256) : Con Try.prog 125 [] [g.d, .v (.int .i64 i), .v (.bool d)] ((.own 0 0 (runOn g (if d then 1 else 0) (headOf g (if d then 1 else 0) 256 i)).length none)) [] [.data 3 (.int .i64) (runOn g (if d then 1 else 0) (headOf g (if d then 1 else 0) 256 i))] := by
  refine con_vc (how := [none]) (c := q125) (K := (KK q125)) spL (fun k => [[1,3,7,8,9],[1,3,7,11,12]].getD k []) (fun k => if k = 1 then [⟨11, 3, .int .i64⟩] else if k = 99 then [⟨6, 3, .int .i64⟩] else []) 400 (.fork (.hd 0) (.hd 0)) (V := fun G R => let yy0 := (Row.box 35 [D.v (Value.int IntKind.i64 g.h), D.v (Value.int IntKind.i64 g.w), D.sl false false Ty.bool g.B, D.sl false false Ty.bool g.R, D.sl false false Ty.bool g.L]); (d = true → SameK (KK q125 0) (KK q125 0) ∧ G 0 (stOf 40 [1, 3, 7, 8, 9] [D.v (Value.int IntKind.i64 i), D.ptr 0 0 0, D.v (Value.int IntKind.i64 (1 : Int)), D.v (Value.int IntKind.i64 (3 : Int)), D.v (Value.bool true)] [Slot.live yy0])) ∧ (d = false → SameK (KK q125 0) (KK q125 0) ∧ G 0 (stOf 40 [1, 3, 7, 8, 9] [D.v (Value.int IntKind.i64 i), D.ptr 0 0 0, D.v (Value.int IntKind.i64 (0 : Int)), D.v (Value.int IntKind.i64 (2 : Int)), D.v (Value.bool true)] [Slot.live yy0]))) hmG Try.func125 (by kernel_rfl) (by kernel_rfl) (fun G R => by kernel_rfl) ?_
  try dsimp only
  try dsimp only
  have hx := fun y hy hb => e125_0 g y (y + 2) _ hc hy hb 256 i i0 hi rfl
  have h0 := hx 0 (.inl rfl) rfl
  have h1 := hx 1 (.inr rfl) rfl
  cases d
  simp (disch := omega) only [wrG, sameK_iff, true_and, and_true, decide_eq_true_eq, decide_eq_false_iff_not, ne_eq, not_false_eq_true, Bool.false_eq_true, Bool.true_eq_false, false_implies, true_implies, Ty.dflt, reduceCtorEq, beq_iff_eq, bne_iff_ne, beq_eq_false_iff_ne, bne_eq_false_iff_eq, Bool.not_eq_true, Bool.not_eq_eq_eq_not, Bool.not_true, Bool.not_false, gt_iff_lt, ge_iff_le, Int.not_lt, Int.not_le]
  repeat' (first | with_reducible refine And.intro ?_ ?_ | intro _)
  all_goals first | rfl | omega | assumption | trivial | exact h0 | exact h1 | (exfalso; simp_all; done) | skip
def vq9 (g : Gr) (i : Int) (num : Int) (ys : List (Int × Bool × List Int)) (G : Nat → St → Prop) (R : D × List (Option Row) × List Row → Prop) : Prop := let yy0 := (runOn g (if true = true then (1 : Int) else (0 : Int)) (headOf g (if true = true then (1 : Int) else (0 : Int)) 256 i)); let yy1 := (runOn g (if false = true then (1 : Int) else (0 : Int)) (headOf g (if false = true then (1 : Int) else (0 : Int)) 256 i)); let yy2 := (Row.box 35 [D.v (Value.int IntKind.i64 g.h), D.v (Value.int IntKind.i64 g.w), D.sl false false Ty.bool g.B, D.sl false false Ty.bool g.R, D.sl false false Ty.bool g.L]); let yy3 := ((Ty.int IntKind.i64).prod (Ty.bool.prod (Ty.int IntKind.i64).sl)); let yy4 := (decide ((↑yy1.length : Int) > (1 : Int)) = true → roomy Try.prog 86 (ys.length + 1) ∧ (decide ((↑yy0.length : Int) > (1 : Int)) = true → roomy Try.prog 86 (ys.length + 1 + 1) ∧ SameK (KK q100 0) (KK q100 0) ∧ G 0 (stOf 74 [1, 3, 4, 5] [D.ptr 0 0 0, D.own 1 0 (ys.length + 1 + 1) none, D.v (Value.int IntKind.i64 (IntKind.i64.wrap (num + (1 : Int)))), D.v (Value.int IntKind.i64 (IntKind.i64.wrap (i + (1 : Int))))] [Slot.live yy2, Slot.live (Row.data 86 yy3 (List.take (ys.length + 1) (List.drop 0 (List.take ys.length (List.drop 0 ys) ++ List.take 1 (List.drop 0 [(IntKind.i64.wrap (num + (1 : Int)), false, List.take yy1.length (List.drop 0 yy1))]))) ++ List.take 1 (List.drop 0 [(IntKind.i64.wrap (num + (1 : Int)), true, List.take yy0.length (List.drop 0 yy0))])))])) ∧ (decide ((↑yy0.length : Int) > (1 : Int)) = false → SameK (KK q100 0) (KK q100 0) ∧ G 0 (stOf 74 [1, 3, 4, 5] [D.ptr 0 0 0, D.own 1 0 (ys.length + 1) none, D.v (Value.int IntKind.i64 (IntKind.i64.wrap (num + (1 : Int)))), D.v (Value.int IntKind.i64 (IntKind.i64.wrap (i + (1 : Int))))] [Slot.live yy2, Slot.live (Row.data 86 yy3 (List.take ys.length (List.drop 0 ys) ++ List.take 1 (List.drop 0 [(IntKind.i64.wrap (num + (1 : Int)), false, List.take yy1.length (List.drop 0 yy1))])))]))); let yy5 := (decide ((↑yy0.length : Int) > (1 : Int)) = true → roomy Try.prog 86 (ys.length + 1) ∧ SameK (KK q100 0) (KK q100 0) ∧ G 0 (stOf 74 [1, 3, 4, 5] [D.ptr 0 0 0, D.own 1 0 (ys.length + 1) none, D.v (Value.int IntKind.i64 (IntKind.i64.wrap (num + (1 : Int)))), D.v (Value.int IntKind.i64 (IntKind.i64.wrap (i + (1 : Int))))] [Slot.live yy2, Slot.live (Row.data 86 yy3 (List.take ys.length (List.drop 0 ys) ++ List.take 1 (List.drop 0 [(IntKind.i64.wrap (num + (1 : Int)), true, List.take yy0.length (List.drop 0 yy0))])))])); let yy6 := (stOf 74 [1, 3, 4, 5] [D.ptr 0 0 0, D.own 1 0 ys.length none, D.v (Value.int IntKind.i64 num), D.v (Value.int IntKind.i64 (IntKind.i64.wrap (i + (1 : Int))))] [Slot.live yy2, Slot.live (Row.data 86 yy3 ys)]); let yy7 := (stOf 74 [1, 3, 4, 5] [D.ptr 0 0 0, D.own 1 0 ys.length none, D.v (Value.int IntKind.i64 (IntKind.i64.wrap (num + (1 : Int)))), D.v (Value.int IntKind.i64 (IntKind.i64.wrap (i + (1 : Int))))] [Slot.live yy2, Slot.live (Row.data 86 yy3 ys)]); let yy8 := (decide ((↑yy0.length : Int) > (1 : Int)) = true → roomy Try.prog 86 (ys.length + 1) ∧ SameK (KK q100 0) (KK q100 0) ∧ G 0 (stOf 74 [1, 3, 4, 5] [D.ptr 0 0 0, D.own 1 0 (ys.length + 1) none, D.v (Value.int IntKind.i64 num), D.v (Value.int IntKind.i64 (IntKind.i64.wrap (i + (1 : Int))))] [Slot.live yy2, Slot.live (Row.data 86 yy3 (List.take ys.length (List.drop 0 ys) ++ List.take 1 (List.drop 0 [(num, true, List.take yy0.length (List.drop 0 yy0))])))])); let yy9 := ((↑yy1.length : Int) > (1 : Int)); (decide (i < IntKind.i64.wrap (g.h * g.w)) = true → (0 : Int) ≤ i ∧ i < (↑g.B.length : Int) ∧ (g.B.getD i.toNat Ty.bool.dflt = true → SameK (KK q100 0) (KK q100 0) ∧ G 0 yy6) ∧ (g.B.getD i.toNat Ty.bool.dflt = false → Con Try.prog 125 [] [D.agg [D.v (Value.int IntKind.i64 g.h), D.v (Value.int IntKind.i64 g.w), D.sl false false Ty.bool g.B, D.sl false false Ty.bool g.R, D.sl false false Ty.bool g.L], D.v (Value.int IntKind.i64 i), D.v (Value.bool false)] (D.own 0 0 yy1.length none) [] [Row.data 3 (Ty.int IntKind.i64) yy1] ∧ Value.int IntKind.i64 g.h = Value.int IntKind.i64 g.h ∧ Value.int IntKind.i64 g.w = Value.int IntKind.i64 g.w ∧ g.B = g.B ∧ g.R = g.R ∧ g.L = g.L ∧ Value.int IntKind.i64 i = Value.int IntKind.i64 i ∧ Value.bool false = Value.bool false ∧ Con Try.prog 125 [] [D.agg [D.v (Value.int IntKind.i64 g.h), D.v (Value.int IntKind.i64 g.w), D.sl false false Ty.bool g.B, D.sl false false Ty.bool g.R, D.sl false false Ty.bool g.L], D.v (Value.int IntKind.i64 i), D.v (Value.bool true)] (D.own 0 0 yy0.length none) [] [Row.data 3 (Ty.int IntKind.i64) yy0] ∧ Value.int IntKind.i64 g.h = Value.int IntKind.i64 g.h ∧ Value.int IntKind.i64 g.w = Value.int IntKind.i64 g.w ∧ g.B = g.B ∧ g.R = g.R ∧ g.L = g.L ∧ Value.int IntKind.i64 i = Value.int IntKind.i64 i ∧ Value.bool true = Value.bool true ∧ (0 : Int) ≤ (0 : Int) ∧ (0 : Int) < (↑yy1.length : Int) ∧ 0 < yy1.length ∧ ((yy1.getD 0 (Ty.int IntKind.i64).dflt == i) = true → (0 : Int) ≤ (0 : Int) ∧ (0 : Int) < (↑yy0.length : Int) ∧ 0 < yy0.length ∧ ((yy0.getD 0 (Ty.int IntKind.i64).dflt == i) = true → (decide yy9 = true → true = true ∧ yy4 ∧ (decide yy9 = false → yy5 ∧ (decide ((↑yy0.length : Int) > (1 : Int)) = false → SameK (KK q100 0) (KK q100 0) ∧ G 0 yy7))) ∧ (decide yy9 = false → (decide ((↑yy0.length : Int) > (1 : Int)) = true → yy4 ∧ (decide yy9 = false → yy5 ∧ (decide ((↑yy0.length : Int) > (1 : Int)) = false → SameK (KK q100 0) (KK q100 0) ∧ G 0 yy7))) ∧ (decide ((↑yy0.length : Int) > (1 : Int)) = false → (decide yy9 = true → roomy Try.prog 86 (ys.length + 1) ∧ (decide ((↑yy0.length : Int) > (1 : Int)) = true → roomy Try.prog 86 (ys.length + 1 + 1) ∧ SameK (KK q100 0) (KK q100 0) ∧ G 0 (stOf 74 [1, 3, 4, 5] [D.ptr 0 0 0, D.own 1 0 (ys.length + 1 + 1) none, D.v (Value.int IntKind.i64 num), D.v (Value.int IntKind.i64 (IntKind.i64.wrap (i + (1 : Int))))] [Slot.live yy2, Slot.live (Row.data 86 yy3 (List.take (ys.length + 1) (List.drop 0 (List.take ys.length (List.drop 0 ys) ++ List.take 1 (List.drop 0 [(num, false, List.take yy1.length (List.drop 0 yy1))]))) ++ List.take 1 (List.drop 0 [(num, true, List.take yy0.length (List.drop 0 yy0))])))])) ∧ (decide ((↑yy0.length : Int) > (1 : Int)) = false → SameK (KK q100 0) (KK q100 0) ∧ G 0 (stOf 74 [1, 3, 4, 5] [D.ptr 0 0 0, D.own 1 0 (ys.length + 1) none, D.v (Value.int IntKind.i64 num), D.v (Value.int IntKind.i64 (IntKind.i64.wrap (i + (1 : Int))))] [Slot.live yy2, Slot.live (Row.data 86 yy3 (List.take ys.length (List.drop 0 ys) ++ List.take 1 (List.drop 0 [(num, false, List.take yy1.length (List.drop 0 yy1))])))]))) ∧ (decide yy9 = false → yy8 ∧ (decide ((↑yy0.length : Int) > (1 : Int)) = false → SameK (KK q100 0) (KK q100 0) ∧ G 0 yy6))))) ∧ ((yy0.getD 0 (Ty.int IntKind.i64).dflt == i) = false → (decide yy9 = true → true = true ∧ (decide yy9 = true → roomy Try.prog 86 (ys.length + 1) ∧ false = false ∧ SameK (KK q100 0) (KK q100 0) ∧ G 0 (stOf 74 [1, 3, 4, 5] [D.ptr 0 0 0, D.own 1 0 (ys.length + 1) none, D.v (Value.int IntKind.i64 (IntKind.i64.wrap (num + (1 : Int)))), D.v (Value.int IntKind.i64 (IntKind.i64.wrap (i + (1 : Int))))] [Slot.live yy2, Slot.live (Row.data 86 yy3 (List.take ys.length (List.drop 0 ys) ++ List.take 1 (List.drop 0 [(IntKind.i64.wrap (num + (1 : Int)), false, List.take yy1.length (List.drop 0 yy1))])))])) ∧ (decide yy9 = false → false = false ∧ SameK (KK q100 0) (KK q100 0) ∧ G 0 yy7)) ∧ (decide yy9 = false → false = false ∧ (decide yy9 = true → roomy Try.prog 86 (ys.length + 1) ∧ false = false ∧ SameK (KK q100 0) (KK q100 0) ∧ G 0 (stOf 74 [1, 3, 4, 5] [D.ptr 0 0 0, D.own 1 0 (ys.length + 1) none, D.v (Value.int IntKind.i64 num), D.v (Value.int IntKind.i64 (IntKind.i64.wrap (i + (1 : Int))))] [Slot.live yy2, Slot.live (Row.data 86 yy3 (List.take ys.length (List.drop 0 ys) ++ List.take 1 (List.drop 0 [(num, false, List.take yy1.length (List.drop 0 yy1))])))])) ∧ (decide yy9 = false → false = false ∧ SameK (KK q100 0) (KK q100 0) ∧ G 0 yy6)))) ∧ ((yy1.getD 0 (Ty.int IntKind.i64).dflt == i) = false → (0 : Int) ≤ (0 : Int) ∧ (0 : Int) < (↑yy0.length : Int) ∧ 0 < yy0.length ∧ ((yy0.getD 0 (Ty.int IntKind.i64).dflt == i) = true → false = false ∧ (decide ((↑yy0.length : Int) > (1 : Int)) = true → false = false ∧ yy5 ∧ (decide ((↑yy0.length : Int) > (1 : Int)) = false → SameK (KK q100 0) (KK q100 0) ∧ G 0 yy7)) ∧ (decide ((↑yy0.length : Int) > (1 : Int)) = false → false = false ∧ yy8 ∧ (decide ((↑yy0.length : Int) > (1 : Int)) = false → SameK (KK q100 0) (KK q100 0) ∧ G 0 yy6))) ∧ ((yy0.getD 0 (Ty.int IntKind.i64).dflt == i) = false → false = false ∧ false = false ∧ false = false ∧ false = false ∧ SameK (KK q100 0) (KK q100 0) ∧ G 0 yy6)))) ∧ (decide (i < IntKind.i64.wrap (g.h * g.w)) = false → R (D.own 0 0 ys.length none, [], [Row.data 86 yy3 ys]))
theorem e100 (g : Gr) (zs : List (Int × Bool × List Int)) (hc : checkF g = 0) (m : Nat) : ∀ (i num : Int) (ys : List (Int × Bool × List Int)), 0 ≤ i → i + m = g.h * g.w → 0 ≤ num → num ≤ i → ys.length ≤ 2 * i → ys ++ slotsFrom g m i num = zs → GetsK Try.prog Try.f100.results.toList [none] (KK q100) 0 (.own 0 0 zs.length none, [], [.data 86 SlT zs]) 0 (stOf 74 [1,3,4,5] [.ptr 0 0 0, .own 1 0 ys.length none, .v (.int .i64 num), .v (.int .i64 i)] [.live (.box 35 [.v (.int .i64 g.h), .v (.int .i64 g.w), .sl false false .bool g.B, .sl false false .bool g.R, .sl false false .bool g.L]), .live (.data 86 SlT ys)]) := by
  have hw := hw_in (chk0.1 hc).1 (chk0.1 hc).2.1
  have ew := hw_wrap (chk0.1 hc).1 (chk0.1 hc).2.1
  have sz := size3 (chk0.1 hc).2.2.1
  induction m with
  | zero =>
    intro i num ys i0 im n0 ni yl hz
    simp only [slotsFrom, List.append_nil] at hz
    subst hz
    refine gets_vc spL (fun _ => [1,3,4,5]) (fun k => if k = 0 then [⟨3, 86, SlT⟩] else [⟨2, 86, SlT⟩]) 400 (.fork (.fork (.hd 0) (.fork (.fork (.fork (.t (.fork (.fork (.hd 0) (.hd 0)) (.fork (.hd 0) (.hd 0)))) (.fork (.fork (.fork (.hd 0) (.hd 0)) (.fork (.hd 0) (.hd 0))) (.fork (.fork (.hd 0) (.hd 0)) (.fork (.hd 0) (.hd 0))))) (.fork (.t (.fork (.f (.hd 0)) (.f (.hd 0)))) (.f (.fork (.f (.hd 0)) (.f (.hd 0)))))) (.fork (.f (.fork (.f (.fork (.hd 0) (.hd 0))) (.f (.fork (.hd 0) (.hd 0))))) (.f (.f (.f (.f (.hd 0)))))))) .stop) (V := vq9 g i num ys) hmG (fun G R => by kernel_rfl) ?_
    unfold vq9
    try dsimp only
    rw [ew]
    constructor
    · intro h; rw [decide_eq_true_eq] at h; omega
    · intro _; rfl
  | succ m ih =>
    intro i num ys i0 im n0 ni yl hz
    have r0 := d125 g i false hc i0 (by omega)
    have r1 := d125 g i true hc i0 (by omega)
    simp only [Bool.false_eq_true, if_false, if_true] at r0 r1
    have l1 : ∀ (a : Int × Bool × List Int), ((ys ++ [a]).length : Int) ≤ 2 * (i + 1) := fun a => by simp; omega
    have l2 : ∀ (a b : Int × Bool × List Int), ((ys ++ [a] ++ [b]).length : Int) ≤ 2 * (i + 1) := fun a b => by simp; omega
    have hA := ih (i + 1) num ys (by omega) (by omega) n0 (by omega) (by omega)
    have hB := ih (i + 1) (num + 1) (ys ++ [(num + 1, false, runOn g 0 i)]) (by omega) (by omega) (by omega) (by omega) (l1 _)
    have hC := ih (i + 1) (num + 1) (ys ++ [(num + 1, true, runOn g 1 i)]) (by omega) (by omega) (by omega) (by omega) (l1 _)
    have hD := ih (i + 1) (num + 1) (ys ++ [(num + 1, false, runOn g 0 i)] ++ [(num + 1, true, runOn g 1 i)]) (by omega) (by omega) (by omega) (by omega) (l2 _ _)
    simp only [List.length_append, List.length_cons, List.length_nil, Nat.zero_add] at hB hC hD
    have q0 := head_iff (g := g) (y := 0) (.inl rfl) i0
    have q1 := head_iff (g := g) (y := 1) (.inr rfl) i0
    have w0 := run_long (g := g) (y := 0) (i := i)
    have w1 := run_long (g := g) (y := 1) (i := i)
    have gd : ∀ y h, (runOn g y h).getD 0 0 = h := fun _ _ => rfl
    have ln : ∀ y h, (runOn g y h).length = (onT g y 256 h).length + 1 := fun _ _ => rfl
    have ol := on_len g
    simp only [slotsFrom, beginsB, show (0 : Int) + 2 = 2 by rfl, show (1 : Int) + 2 = 3 by rfl] at hz q0 q1
    refine gets_vc spL (fun _ => [1,3,4,5]) (fun k => if k = 0 then [⟨3, 86, SlT⟩] else [⟨2, 86, SlT⟩]) 400 (.fork (.fork (.hd 0) (.fork (.fork (.fork (.t (.fork (.fork (.hd 0) (.hd 0)) (.fork (.hd 0) (.hd 0)))) (.fork (.fork (.fork (.hd 0) (.hd 0)) (.fork (.hd 0) (.hd 0))) (.fork (.fork (.hd 0) (.hd 0)) (.fork (.hd 0) (.hd 0))))) (.fork (.t (.fork (.f (.hd 0)) (.f (.hd 0)))) (.f (.fork (.f (.hd 0)) (.f (.hd 0)))))) (.fork (.f (.fork (.f (.fork (.hd 0) (.hd 0))) (.f (.fork (.hd 0) (.hd 0))))) (.f (.f (.f (.f (.hd 0)))))))) .stop) (V := vq9 g i num ys) hmG (fun G R => by kernel_rfl) ?_
    unfold vq9
    try dsimp only
    simp only [take_len, ew, Bool.false_eq_true, if_false, if_true, Ty.dflt, Nat.zero_add, show (0 : Int).toNat = 0 by rfl, gd, show g.B.getD i.toNat false = bAt g.B i by rfl]
    rcases Bool.eq_false_or_eq_true (bAt g.B i) with hb | hb
    · have ho : openF g i = false := by rw [open_of hc i0 (by omega), hb]; rfl
      have z : ∀ y, (stepF g i y).2 = false := fun y => by rw [stepF, ho]; rfl
      simp only [z, Bool.not_false, Bool.true_and, Bool.false_eq_true, if_false, List.nil_append, Bool.or_false] at hz
      rw [hb]
      simp (disch := omega) only [wrG, sameK_iff, true_and, and_true, decide_eq_true_eq, decide_eq_false_iff_not, ne_eq, not_false_eq_true, Bool.false_eq_true, Bool.true_eq_false, false_implies, true_implies, Ty.dflt, reduceCtorEq, beq_iff_eq, bne_iff_ne, beq_eq_false_iff_ne, bne_eq_false_iff_eq, Bool.not_eq_true, Bool.not_eq_eq_eq_not, Bool.not_true, Bool.not_false, gt_iff_lt, ge_iff_le, Int.not_lt, Int.not_le]
      repeat' (first | with_reducible refine And.intro ?_ ?_ | intro _)
      all_goals first | rfl | omega | assumption | trivial | exact hA hz | (exfalso; simp_all; done) | skip
    · rw [hb]
      rcases Bool.eq_false_or_eq_true (stepF g i 2).2 with a2 | a2 <;> rcases Bool.eq_false_or_eq_true (stepF g i 3).2 with a3 | a3
      · have a2 := a2; have a3 := a3
        rw [a2] at q0; rw [a3] at q1
        simp only [Bool.not_true, Bool.not_false] at q0 q1
        rcases Bool.eq_false_or_eq_true (stepF g i 0).2 with a0 | a0 <;> rcases Bool.eq_false_or_eq_true (stepF g i 1).2 with a1 | a1 <;>
        simp only [q0, q1, w0, w1, a0, a1, a2, a3, Bool.not_true, Bool.not_false, Bool.true_and, Bool.false_and, Bool.and_true, Bool.and_false, if_true, Bool.false_eq_true, if_false, List.nil_append, Bool.or_true, Bool.true_or, Bool.or_false, beq_self_eq_true] at hz r0 r1 ⊢ <;> (
           simp (disch := omega) only [List.nil_append, take_snoc, wrG, sameK_iff, true_and, and_true, decide_eq_true_eq, decide_eq_false_iff_not, ne_eq, not_false_eq_true, Bool.false_eq_true, Bool.true_eq_false, false_implies, true_implies, Ty.dflt, reduceCtorEq, beq_iff_eq, bne_iff_ne, beq_eq_false_iff_ne, bne_eq_false_iff_eq, Bool.not_eq_true, Bool.not_eq_eq_eq_not, Bool.not_true, Bool.not_false, gt_iff_lt, ge_iff_le, Int.not_lt, Int.not_le]
           repeat' (first | with_reducible refine And.intro ?_ ?_ | intro _)
           all_goals first | rfl | omega | assumption | trivial | exact hA hz | exact hB (by rw [← hz]; simp) | exact hC (by rw [← hz]; simp) | exact hD (by rw [← hz]; simp) | exact run_pos _ _ _ | exact run_posI _ _ _ | exact room86 (by omega) | (exfalso; simp_all; done) | skip)
      · have a2 := a2; have a3 := a3
        rw [a2] at q0; rw [a3] at q1
        simp only [Bool.not_true, Bool.not_false] at q0 q1
        have e1 : headOf g 1 256 i = i := by simpa using q1
        rcases Bool.eq_false_or_eq_true (stepF g i 0).2 with a0 | a0 <;> rcases Bool.eq_false_or_eq_true (stepF g i 1).2 with a1 | a1 <;>
        simp only [q0, e1, w0, w1, a0, a1, a2, a3, Bool.not_true, Bool.not_false, Bool.true_and, Bool.false_and, Bool.and_true, Bool.and_false, if_true, Bool.false_eq_true, if_false, List.nil_append, Bool.or_true, Bool.true_or, Bool.or_false, beq_self_eq_true] at hz r0 r1 ⊢ <;> (
           simp (disch := omega) only [List.nil_append, take_snoc, wrG, sameK_iff, true_and, and_true, decide_eq_true_eq, decide_eq_false_iff_not, ne_eq, not_false_eq_true, Bool.false_eq_true, Bool.true_eq_false, false_implies, true_implies, Ty.dflt, reduceCtorEq, beq_iff_eq, bne_iff_ne, beq_eq_false_iff_ne, bne_eq_false_iff_eq, Bool.not_eq_true, Bool.not_eq_eq_eq_not, Bool.not_true, Bool.not_false, gt_iff_lt, ge_iff_le, Int.not_lt, Int.not_le]
           repeat' (first | with_reducible refine And.intro ?_ ?_ | intro _)
           all_goals first | rfl | omega | assumption | trivial | exact hA hz | exact hB (by rw [← hz]; simp) | exact hC (by rw [← hz]; simp) | exact hD (by rw [← hz]; simp) | exact run_pos _ _ _ | exact run_posI _ _ _ | exact room86 (by omega) | (exfalso; simp_all; done) | skip)
      · have a2 := a2; have a3 := a3
        rw [a2] at q0; rw [a3] at q1
        simp only [Bool.not_true, Bool.not_false] at q0 q1
        have e0 : headOf g 0 256 i = i := by simpa using q0
        rcases Bool.eq_false_or_eq_true (stepF g i 0).2 with a0 | a0 <;> rcases Bool.eq_false_or_eq_true (stepF g i 1).2 with a1 | a1 <;>
        simp only [e0, q1, w0, w1, a0, a1, a2, a3, Bool.not_true, Bool.not_false, Bool.true_and, Bool.false_and, Bool.and_true, Bool.and_false, if_true, Bool.false_eq_true, if_false, List.nil_append, Bool.or_true, Bool.true_or, Bool.or_false, beq_self_eq_true] at hz r0 r1 ⊢ <;> (
           simp (disch := omega) only [List.nil_append, take_snoc, wrG, sameK_iff, true_and, and_true, decide_eq_true_eq, decide_eq_false_iff_not, ne_eq, not_false_eq_true, Bool.false_eq_true, Bool.true_eq_false, false_implies, true_implies, Ty.dflt, reduceCtorEq, beq_iff_eq, bne_iff_ne, beq_eq_false_iff_ne, bne_eq_false_iff_eq, Bool.not_eq_true, Bool.not_eq_eq_eq_not, Bool.not_true, Bool.not_false, gt_iff_lt, ge_iff_le, Int.not_lt, Int.not_le]
           repeat' (first | with_reducible refine And.intro ?_ ?_ | intro _)
           all_goals first | rfl | omega | assumption | trivial | exact hA hz | exact hB (by rw [← hz]; simp) | exact hC (by rw [← hz]; simp) | exact hD (by rw [← hz]; simp) | exact run_pos _ _ _ | exact run_posI _ _ _ | exact room86 (by omega) | (exfalso; simp_all; done) | skip)
      · have a2 := a2; have a3 := a3
        rw [a2] at q0; rw [a3] at q1
        simp only [Bool.not_true, Bool.not_false] at q0 q1
        have e0 : headOf g 0 256 i = i := by simpa using q0
        have e1 : headOf g 1 256 i = i := by simpa using q1
        rcases Bool.eq_false_or_eq_true (stepF g i 0).2 with a0 | a0 <;> rcases Bool.eq_false_or_eq_true (stepF g i 1).2 with a1 | a1 <;>
        simp only [e0, e1, w0, w1, a0, a1, a2, a3, Bool.not_true, Bool.not_false, Bool.true_and, Bool.false_and, Bool.and_true, Bool.and_false, if_true, Bool.false_eq_true, if_false, List.nil_append, Bool.or_true, Bool.true_or, Bool.or_false, beq_self_eq_true] at hz r0 r1 ⊢ <;> (
           simp (disch := omega) only [List.nil_append, take_snoc, wrG, sameK_iff, true_and, and_true, decide_eq_true_eq, decide_eq_false_iff_not, ne_eq, not_false_eq_true, Bool.false_eq_true, Bool.true_eq_false, false_implies, true_implies, Ty.dflt, reduceCtorEq, beq_iff_eq, bne_iff_ne, beq_eq_false_iff_ne, bne_eq_false_iff_eq, Bool.not_eq_true, Bool.not_eq_eq_eq_not, Bool.not_true, Bool.not_false, gt_iff_lt, ge_iff_le, Int.not_lt, Int.not_le]
           repeat' (first | with_reducible refine And.intro ?_ ?_ | intro _)
           all_goals first | rfl | omega | assumption | trivial | exact hA hz | exact hB (by rw [← hz]; simp) | exact hC (by rw [← hz]; simp) | exact hD (by rw [← hz]; simp) | exact run_pos _ _ _ | exact run_posI _ _ _ | exact room86 (by omega) | (exfalso; simp_all; done) | skip)
theorem d100 (g : Gr)  : Con Try.prog 100 [] [g.d] ((.own 0 0 (slotsF g).length none)) [] [.data 86 SlT (slotsF g)] := by
  refine con_vc (how := [none]) (c := q100) (K := (KK q100)) spL (fun _ => [1,3,4,5]) (fun k => if k = 0 then [⟨3, 86, SlT⟩] else [⟨2, 86, SlT⟩]) 400 (.fork .stop (.hd 0)) (V := fun G R => Con Try.prog 44 [] [D.agg [D.v (Value.int IntKind.i64 g.h), D.v (Value.int IntKind.i64 g.w), D.sl false false Ty.bool g.B, D.sl false false Ty.bool g.R, D.sl false false Ty.bool g.L]] (D.v (Value.int IntKind.i64 (checkF g))) [] [] ∧ Value.int IntKind.i64 g.h = Value.int IntKind.i64 g.h ∧ Value.int IntKind.i64 g.w = Value.int IntKind.i64 g.w ∧ g.B = g.B ∧ g.R = g.R ∧ g.L = g.L ∧ ((checkF g != (0 : Int)) = true → R (D.own 0 0 0 none, [], [Row.data 86 ((Ty.int IntKind.i64).prod (Ty.bool.prod (Ty.int IntKind.i64).sl)) []])) ∧ ((checkF g != (0 : Int)) = false → SameK (KK q100 0) (KK q100 0) ∧ G 0 (stOf 74 [1, 3, 4, 5] [D.ptr 0 0 0, D.own 1 0 0 none, D.v (Value.int IntKind.i64 (0 : Int)), D.v (Value.int IntKind.i64 (0 : Int))] [Slot.live (Row.box 35 [D.v (Value.int IntKind.i64 g.h), D.v (Value.int IntKind.i64 g.w), D.sl false false Ty.bool g.B, D.sl false false Ty.bool g.R, D.sl false false Ty.bool g.L]), Slot.live (Row.data 86 ((Ty.int IntKind.i64).prod (Ty.bool.prod (Ty.int IntKind.i64).sl)) [])]))) hmG Try.func100 (by kernel_rfl) (by kernel_rfl) (fun G R => by kernel_rfl) ?_
  try dsimp only
  have c := d44 g
  by_cases hc : checkF g = 0
  · have hw := hw_in (chk0.1 hc).1 (chk0.1 hc).2.1
    have e : slotsF g = slotsFrom g (g.h * g.w).toNat 0 0 := if_pos hc
    rw [e]
    have hx := e100 g _ hc (g.h * g.w).toNat 0 0 [] (by omega) (by omega) (by omega) (by omega) (by simp) (by simp; rfl)
    rw [hc] at c ⊢
    simp (disch := omega) only [wrG, sameK_iff, true_and, and_true, decide_eq_true_eq, decide_eq_false_iff_not, ne_eq, not_false_eq_true, Bool.false_eq_true, Bool.true_eq_false, false_implies, true_implies, Ty.dflt, reduceCtorEq, beq_iff_eq, bne_iff_ne, beq_eq_false_iff_ne, bne_eq_false_iff_eq, Bool.not_eq_true, Bool.not_eq_eq_eq_not, Bool.not_true, Bool.not_false, gt_iff_lt, ge_iff_le, Int.not_lt, Int.not_le]
    repeat' (first | with_reducible refine And.intro ?_ ?_ | intro _)
    all_goals first | rfl | omega | assumption | trivial | (exfalso; simp_all; done) | skip
  · have e : slotsF g = [] := if_neg hc
    rw [e]
    simp (disch := omega) only [wrG, sameK_iff, true_and, and_true, decide_eq_true_eq, decide_eq_false_iff_not, ne_eq, not_false_eq_true, Bool.false_eq_true, Bool.true_eq_false, false_implies, true_implies, Ty.dflt, reduceCtorEq, beq_iff_eq, bne_iff_ne, beq_eq_false_iff_ne, bne_eq_false_iff_eq, Bool.not_eq_true, Bool.not_eq_eq_eq_not, Bool.not_true, Bool.not_false, gt_iff_lt, ge_iff_le, Int.not_lt, Int.not_le]
    repeat' (first | with_reducible refine And.intro ?_ ?_ | intro _)
    all_goals first | rfl | omega | assumption | trivial | (exfalso; simp_all; done) | skip
end Go.Proofs.YtnakmganodkliaaAm
set_option maxRecDepth 100000
namespace Go.Proofs.YtnakmganodkliaaAm
open Go
abbrev SeT : Ty := .prod (.int .i64) (.int .i64)
def layCells (s : Int) : Int → List Int → List (Int × Int) → List (Int × Int)
  | _, [], A => A
  | k, c :: cs, A => layCells s (k + 1) cs (A.set c.toNat (s, k))
def laySlots : Int → List (Int × Bool × List Int) → List (Int × Int) → List (Int × Int) → List (Int × Int) × List (Int × Int)
  | _, [], A, D => (A, D)
  | s, x :: ss, A, D => if x.2.1 then laySlots (s + 1) ss A (layCells s 0 x.2.2 D) else laySlots (s + 1) ss (layCells s 0 x.2.2 A) D
def seatsF (g : Gr) : List (Int × Int) × List (Int × Int) := if checkF g = 0 then laySlots 0 (slotsF g) (List.replicate (g.h * g.w).toNat (-1, 0)) (List.replicate (g.h * g.w).toNat (-1, 0)) else ([], [])
def spSe : Sp := fun f args rd => match f, args with
  | 77, [.agg [.v (.int _ h), .v (.int _ w), b, r, l]] => withW rd h w b r l fun g ls => some { f := 77, args := [g.d], val := .tup [.own 0 0 (seatsF g).1.length none, .own 1 0 (seatsF g).2.length none], allocs := [.data 104 SeT (seatsF g).1, .data 104 SeT (seatsF g).2], lent := ls }
  | f, args => spL f args rd
theorem sl_len (g : Gr) : ∀ (m : Nat) (i num : Int), (slotsFrom g m i num).length ≤ 2 * m
  | 0, _, _ => by simp [slotsFrom]
  | m + 1, i, num => by
    simp only [slotsFrom, List.length_append]
    have := sl_len g m (i + 1) (if beginsB g i 0 || beginsB g i 1 then num + 1 else num)
    split <;> split <;> simp only [List.length_cons, List.length_nil] <;> omega
theorem lay_len (s : Int) : ∀ (cs : List Int) (k : Int) (A : List (Int × Int)), (layCells s k cs A).length = A.length
  | [], _, _ => rfl
  | c :: cs, k, A => by simp only [layCells]; rw [lay_len s cs (k + 1)]; simp
theorem bytes104 : Try.prog.bytesOf 104 = 16 := by kernel_rfl
theorem room104 {n : Nat} (h : n ≤ 1000000) : roomy Try.prog 104 n := by
  unfold roomy
  rw [bytes104]
  omega
theorem on_open {g : Gr} {y : Int} : ∀ (m : Nat) (i : Int), ∀ c ∈ onT g y m i, openF g c = true
  | 0, _, c, h => by simp [onT] at h
  | m + 1, i, c, h => by
    simp only [onT] at h
    split at h
    · rename_i hs
      rcases List.mem_cons.1 h with h | h
      · rw [h]; exact (step_facts hs).2.1
      · exact on_open m _ c h
    · simp at h
theorem slots_open {g : Gr} : ∀ (m : Nat) (i num : Int), ∀ x ∈ slotsFrom g m i num, x.2.2.length ≤ 257 ∧ ∀ c ∈ x.2.2, openF g c = true
  | 0, _, _, x, h => by simp [slotsFrom] at h
  | m + 1, i, num, x, h => by
    have key : ∀ y, beginsB g i y = true → (runOn g y i).length ≤ 257 ∧ ∀ c ∈ runOn g y i, openF g c = true := by
      intro y hb
      unfold beginsB at hb
      rw [Bool.and_eq_true] at hb
      refine ⟨by have := on_len g y 256 i; simp only [runOn, List.length_cons]; omega, fun c hc => ?_⟩
      rcases List.mem_cons.1 hc with h | h
      · rw [h]; exact (step_facts hb.2).1
      · exact on_open 256 i c h
    simp only [slotsFrom, List.mem_append] at h
    rcases h with h | h | h
    · split at h
      · rename_i hb; rw [List.mem_singleton.1 h]; exact key 0 hb
      · simp at h
    · split at h
      · rename_i hb; rw [List.mem_singleton.1 h]; exact key 1 hb
      · simp at h
    · exact slots_open m _ _ x h
end Go.Proofs.YtnakmganodkliaaAm
namespace Go.Proofs.YtnakmganodkliaaAm
open Go
def Beg.put (b : Beg) (z : Nat) (o : Obj) : Beg := ⟨b.w.putObj z o, b.ρ, b.S, b.n⟩
structure Grew (w w' : World) : Prop where
  os : w'.os = w.os
  tape : w'.tape = w.tape
  output : w'.output = w.output
  size : w.heap.size ≤ w'.heap.size
  keep : ∀ k, k < w.heap.size → w'.heap[k]? = w.heap[k]?
theorem Grew.refl (w : World) : Grew w w := ⟨rfl, rfl, rfl, Nat.le_refl _, fun _ _ => rfl⟩
theorem Grew.trans {a b c : World} (h : Grew a b) (k : Grew b c) : Grew a c :=
  ⟨k.os.trans h.os, k.tape.trans h.tape, k.output.trans h.output, Nat.le_trans h.size k.size, fun i hi => (k.keep i (Nat.lt_of_lt_of_le hi h.size)).trans (h.keep i hi)⟩
def Yields (P : Program) (l : Nat) (x : List Value) (w : World) (R : Bool → World → Prop) : Prop :=
  ∃ f tmps assign body, (Instr.yield l x.toArray).run P w = .ok (.round l f tmps assign body) w ∧
    ∀ (c : Frame) (cs : List Frame), ∃ bv w', R bv w' ∧ Steps P (lone (Frame.round l f tmps assign body .normal) (c :: cs) w) (lone (c.finish (.bool bv)) cs w')
structure Kept (U : Nat → Prop) (w w' : World) : Prop where
  size : w.heap.size ≤ w'.heap.size
  keep : ∀ k, k < w.heap.size → ¬ U k → w'.heap[k]? = w.heap[k]?
def bareX (S : Nat → Prop) (w : World) : Ctx := ⟨fun _ => none, [], S, w⟩
structure IterP (P : Program) (g : FuncId) (caps : List D) (xs : List (List Value)) : Prop where
  fn : ∃ fn, P.funcs[g]? = some fn ∧ (fn.name == "runtime.NumGoroutine") = false ∧ fn.body.isNone = false
  run : ∀ (l : Nat) (lb : List Value) (S : Nat → Prop) (J : Nat → (Nat → Prop) → World → Prop) (Jx : World → Prop),
    (∀ i U w, J i U w → ∀ k, U k → k < w.heap.size) →
    (∀ i U w w', Grew w w' → J i U w → J i U w') → (∀ w w', Grew w w' → Jx w → Jx w') →
    (∀ i x U w, xs[i]? = some x → J i U w → Yields P l x w fun c w' => Kept U w w' ∧ if c then ∃ U', J (i + 1) U' w' ∧ ∀ k, U' k → U k ∨ w.heap.size ≤ k else Jx w') →
    ∀ U w, J 0 U w → (∀ k, S k → k < w.heap.size ∧ ¬ U k) → GlobOk S w → RelDs (bareX S w) caps lb →
      Calls P g (#[.func (.yield l) #[] #[]] ++ lb.toArray) w fun e w' => (∃ v, e = .returned v) ∧ ((∃ U', J xs.length U' w') ∨ Jx w')
end Go.Proofs.YtnakmganodkliaaAm
namespace Go.Proofs.YtnakmganodkliaaAm
open Go
abbrev W64 : Nat := 18446744073709551616
theorem wrU {n : Int} (h0 : 0 ≤ n) (h1 : n < 18446744073709551616) : IntKind.u64.wrap n = n := by
  have : IntKind.u64.wrap n = n % 18446744073709551616 := by
    unfold IntKind.wrap
    simp [IntKind.bits, IntKind.signed]
  rw [this]; omega
theorem andU {a b : Nat} (ha : a < W64) (hb : b < W64) : (BitVec.ofInt 64 (a : Int) &&& BitVec.ofInt 64 (b : Int)).toNat = a &&& b := by
  rw [BitVec.ofInt_natCast, BitVec.ofInt_natCast, BitVec.toNat_and, BitVec.toNat_ofNat, BitVec.toNat_ofNat, Nat.mod_eq_of_lt ha, Nat.mod_eq_of_lt hb]
theorem orU {a b : Nat} (ha : a < W64) (hb : b < W64) : (BitVec.ofInt 64 (a : Int) ||| BitVec.ofInt 64 (b : Int)).toNat = a ||| b := by
  rw [BitVec.ofInt_natCast, BitVec.ofInt_natCast, BitVec.toNat_or, BitVec.toNat_ofNat, BitVec.toNat_ofNat, Nat.mod_eq_of_lt ha, Nat.mod_eq_of_lt hb]
theorem and_lt {a b : Nat} (ha : a < W64) : a &&& b < W64 := Nat.lt_of_le_of_lt Nat.and_le_left ha
theorem or_lt {a b : Nat} (ha : a < W64) (hb : b < W64) : a ||| b < W64 := Nat.or_lt_two_pow (n := 64) ha hb
def hasN (m : Nat) (i : Int) : Bool := decide (0 ≤ i) && (decide (i < 64) && m.testBit i.toNat)
def ofA : Nat → List Int → Nat
  | acc, [] => acc
  | acc, x :: xs => ofA (if 0 ≤ x ∧ x < 64 then acc ||| 2 ^ x.toNat else acc) xs
def ofN (l : List Int) : Nat := ofA 0 l
def bitN (i : Int) : Nat := if i < 0 ∨ 63 < i then 0 else 2 ^ i.toNat
theorem of_bits : ∀ (l : List Int) (acc : Nat) (j : Nat), (ofA acc l).testBit j = (acc.testBit j || (decide (j < 64) && decide ((j : Int) ∈ l)))
  | [], acc, j => by simp [ofA]
  | x :: xs, acc, j => by
    simp only [ofA]
    rw [of_bits xs]
    split
    · rename_i h
      rw [Nat.testBit_or, Nat.testBit_two_pow]
      by_cases e : x.toNat = j
      · have e2 : (j : Int) = x := by omega
        have : j < 64 := by omega
        simp [e, e2, this]
      · have e2 : ¬ (j : Int) = x := by omega
        simp [e, e2]
    · rename_i h
      by_cases hj : j < 64
      · have e2 : ¬ (j : Int) = x := by omega
        simp [hj, e2]
      · simp [hj]
theorem of_lt : ∀ (l : List Int) (acc : Nat), acc < W64 → ofA acc l < W64
  | [], acc, h => h
  | x :: xs, acc, h => by
    simp only [ofA]
    refine of_lt xs _ ?_
    split
    · rename_i hx
      exact or_lt h (show 2 ^ x.toNat < 2 ^ 64 from Nat.pow_lt_pow_right (by omega) (by omega))
    · exact h
theorem add_or {a i : Nat} (h : a.testBit i = false) : a + 2 ^ i = a ||| 2 ^ i := by
  have h1 : a / 2 ^ i % 2 = 0 := by
    rw [Nat.testBit_eq_decide_div_mod_eq] at h
    have := of_decide_eq_false h
    omega
  have hp : 0 < 2 ^ i := Nat.two_pow_pos i
  have hr : a % 2 ^ i < 2 ^ i := Nat.mod_lt _ hp
  have hp2 : 2 ^ (i + 1) = 2 ^ i * 2 := Nat.pow_succ 2 i
  have ea : a = 2 ^ (i + 1) * (a / 2 ^ i / 2) + a % 2 ^ i := by
    have h2 := Nat.div_add_mod a (2 ^ i)
    have h3 := Nat.div_add_mod (a / 2 ^ i) 2
    rw [h1, Nat.add_zero] at h3
    rw [hp2, Nat.mul_assoc, h3, h2]
  apply Nat.eq_of_testBit_eq
  intro j
  have el : a + 2 ^ i = 2 ^ (i + 1) * (a / 2 ^ i / 2) + (2 ^ i * 1 + a % 2 ^ i) := by omega
  rw [el, Nat.testBit_two_pow_mul_add _ (by omega), Nat.testBit_or, Nat.testBit_two_pow]
  conv => rhs; rw [ea]
  rw [Nat.testBit_two_pow_mul_add _ hr, Nat.testBit_two_pow_mul_add _ (show a % 2 ^ i < 2 ^ (i + 1) by omega)]
  by_cases h1 : j < i + 1
  · rw [if_pos h1, if_pos h1]
    by_cases h2 : j < i
    · rw [if_pos h2]
      have : ¬ i = j := by omega
      simp [this]
    · have : i = j := by omega
      subst this
      rw [if_neg h2]
      simp
  · rw [if_neg h1, if_neg h1]
    have : ¬ i = j := by omega
    simp [this]
theorem has_div {m : Nat} {i : Int} (h0 : 0 ≤ i) (h1 : i ≤ 63) : hasN m i = decide ((m : Int) / ((2 ^ i.toNat : Nat) : Int) % 2 = 1) := by
  unfold hasN
  rw [decide_eq_true h0, decide_eq_true (show i < 64 by omega), Nat.testBit_eq_decide_div_mod_eq]
  simp only [Bool.true_and]
  apply Bool.eq_iff_iff.2
  simp only [decide_eq_true_eq]
  rw [← Int.natCast_ediv]
  omega
end Go.Proofs.YtnakmganodkliaaAm
set_option maxRecDepth 100000
namespace Go.Proofs.YtnakmganodkliaaAm
open Go
def u64 (m : Nat) : D := .v (.int .u64 (m : Int))
def spNm : Sp := fun f args rd => match f, args with
  | 111, [.v (.int _ m), .v (.int _ i)] => some { f := 111, args := [.v (.int .u64 m), .v (.int .i64 i)], val := .v (.bool (hasN m.toNat i)) }
  | 66, [.v (.int _ m), .v (.int _ i)] => some { f := 66, args := [.v (.int .u64 m), .v (.int .i64 i)], val := .v (.bool (hasN m.toNat i)) }
  | 117, [l] => match slC rd (.int .i64) [l] with
    | some L => some { f := 117, args := [.sl false false (.int .i64) L], val := .v (.int .u64 (ofN L : Nat)), lent := refsDs [l] }
    | none => none
  | 67, [l] => match slC rd (.int .i64) [l] with
    | some L => some { f := 67, args := [.sl false false (.int .i64) L], val := .v (.int .u64 (ofN L : Nat)), lent := refsDs [l] }
    | none => none
  | 130, [.v (.int _ i)] => some { f := 130, args := [.v (.int .i64 i)], val := .v (.int .u64 (bitN i : Nat)) }
  | 127, [.v (.int _ a), .v (.int _ c)] => some { f := 127, args := [.v (.int .u64 a), .v (.int .u64 c)], val := .v (.int .u64 ((a.toNat &&& c.toNat : Nat) : Int)) }
  | f, args => spSe f args rd
noncomputable def n130 : Code := (Try.f130.body).getD .skip
noncomputable def n111 : Code := (Try.f111.body).getD .skip
noncomputable def n117 : Code := (Try.f117.body).getD .skip
noncomputable def n127 : Code := (Try.f127.body).getD .skip
theorem wrU' {n : Nat} (h : n < W64) : IntKind.u64.wrap (n : Int) = (n : Int) := wrU (by omega) (by have : n < 18446744073709551616 := h; omega)
theorem two_cast (k : Nat) : ((2 : Int) ^ k) = ((2 ^ k : Nat) : Int) := by simp
theorem shl1 {i : Int} (h0 : 0 ≤ i) (h1 : i < 64) : IntKind.u64.wrap (1 * 2 ^ (min i.toNat 64)) = ((2 ^ i.toNat : Nat) : Int) := by
  have hm : min i.toNat 64 = i.toNat := by omega
  have hlt : (2 ^ i.toNat : Nat) < W64 := (Nat.pow_lt_pow_right (by omega) (by omega) : 2 ^ i.toNat < 2 ^ 64)
  rw [hm, Int.one_mul, two_cast]
  exact wrU' hlt
theorem shr1 (m : Nat) {i : Int} (h1 : i < 64) : Int.fdiv (m : Int) (2 ^ (min i.toNat 64)) = ((m / 2 ^ i.toNat : Nat) : Int) := by
  have hm : min i.toNat 64 = i.toNat := by omega
  rw [hm, two_cast, Int.fdiv_eq_ediv_of_nonneg _ (Int.natCast_nonneg _)]
  exact (Int.natCast_ediv _ _).symm
theorem u64_mask {t : Nat} (h : t < 64) : (2 ^ t : Nat) < W64 := (Nat.pow_lt_pow_right (by omega) h : 2 ^ t < 2 ^ 64)
theorem has_and {m : Nat} {i : Int} (h0 : 0 ≤ i) (h1 : i < 64) : hasN m i = decide (m / 2 ^ i.toNat % 2 = 1) := by
  unfold hasN
  rw [decide_eq_true h0, decide_eq_true h1, Nat.testBit_eq_decide_div_mod_eq]
  rfl
end Go.Proofs.YtnakmganodkliaaAm
set_option maxRecDepth 100000
namespace Go.Proofs.YtnakmganodkliaaAm
open Go
def vq10 (i : Int) (k : Nat) (b : Nat) (G : Nat → St → Prop) (R : D × List (Option Row) × List Row → Prop) : Prop := (decide ((↑k : Int) < i) = true → SameK (KK n130 0) (KK n130 0) ∧ G 0 (stOf 19 [0, 3, 4] [D.v (Value.int IntKind.i64 i), D.v (Value.int IntKind.u64 (IntKind.u64.wrap ((↑b : Int) * (2 : Int)))), D.v (Value.int IntKind.i64 (IntKind.i64.wrap ((↑k : Int) + (1 : Int))))] [])) ∧ (decide ((↑k : Int) < i) = false → R (D.v (Value.int IntKind.u64 (↑b : Int)), [], []))
theorem e130 (i : Int) (i1 : i < 64) (n : Nat) : ∀ (k b : Nat), (k : Int) + n = i → b = 2 ^ k → GetsK Try.prog Try.f130.results.toList [none] (KK n130) 0 (.v (.int .u64 ((2 ^ i.toNat : Nat) : Int)), [], []) 0 (stOf 19 [0,3,4] [.v (.int .i64 i), .v (.int .u64 (b : Int)), .v (.int .i64 (k : Int))] []) := by
  induction n with
  | zero =>
    intro k b hk hb
    have e : i.toNat = k := by omega
    rw [e, ← hb]
    refine gets_vc spNm (fun _ => [0,3,4]) (fun _ => []) 400 (.fork (.hd 0) .stop) (V := vq10 i k b) hmG (fun G R => by kernel_rfl) ?_
    unfold vq10
    try dsimp only
    simp (disch := omega) only [wrG, sameK_iff, true_and, and_true, decide_eq_true_eq, decide_eq_false_iff_not, ne_eq, not_false_eq_true, Bool.false_eq_true, Bool.true_eq_false, false_implies, true_implies, Ty.dflt, reduceCtorEq, beq_iff_eq, bne_iff_ne, beq_eq_false_iff_ne, bne_eq_false_iff_eq, Bool.not_eq_true, Bool.not_eq_eq_eq_not, Bool.not_true, Bool.not_false, gt_iff_lt, ge_iff_le, Int.not_lt, Int.not_le]
    repeat' (first | with_reducible refine And.intro ?_ ?_ | intro _)
    all_goals first | rfl | omega | assumption | trivial | (exfalso; simp_all; done) | skip
  | succ n ih =>
    intro k b hk hb
    have hlt : 2 ^ (k + 1) < W64 := u64_mask (by omega)
    have e : b * 2 = 2 ^ (k + 1) := by rw [hb, Nat.pow_succ]
    rw [← e] at hlt
    have hlt' : b * 2 < 18446744073709551616 := hlt
    have hx := ih (k + 1) (b * 2) (by omega) e
    have hw : IntKind.u64.wrap ((b : Int) * 2) = ((b * 2 : Nat) : Int) := by
      rw [wrU (by omega) (by omega)]
      simp
    have hk1 : IntKind.i64.wrap ((k : Int) + 1) = ((k + 1 : Nat) : Int) := by rw [wrG (by omega) (by omega)]; simp
    refine gets_vc spNm (fun _ => [0,3,4]) (fun _ => []) 400 (.fork (.hd 0) .stop) (V := vq10 i k b) hmG (fun G R => by kernel_rfl) ?_
    unfold vq10
    try dsimp only
    rw [hw, hk1]
    simp (disch := omega) only [wrG, sameK_iff, true_and, and_true, decide_eq_true_eq, decide_eq_false_iff_not, ne_eq, not_false_eq_true, Bool.false_eq_true, Bool.true_eq_false, false_implies, true_implies, Ty.dflt, reduceCtorEq, beq_iff_eq, bne_iff_ne, beq_eq_false_iff_ne, bne_eq_false_iff_eq, Bool.not_eq_true, Bool.not_eq_eq_eq_not, Bool.not_true, Bool.not_false, gt_iff_lt, ge_iff_le, Int.not_lt, Int.not_le]
    repeat' (first | with_reducible refine And.intro ?_ ?_ | intro _)
    all_goals first | rfl | omega | assumption | trivial | (exfalso; simp_all; done) | skip
theorem d130 (i : Int)  : Con Try.prog 130 [] [.v (.int .i64 i)] ((.v (.int .u64 (bitN i : Nat)))) [] [] := by
  refine con_vc (how := [none]) (c := n130) (K := (KK n130)) spNm (fun _ => [0,3,4]) (fun _ => []) 400 (.fork (.t .stop) (.fork .stop (.hd 0))) (V := fun G R => (decide (i < (0 : Int)) = true → true = true ∧ R (D.v (Value.int IntKind.u64 (0 : Int)), [], [])) ∧ (decide (i < (0 : Int)) = false → (decide (i > (63 : Int)) = true → R (D.v (Value.int IntKind.u64 (0 : Int)), [], [])) ∧ (decide (i > (63 : Int)) = false → SameK (KK n130 0) (KK n130 0) ∧ G 0 (stOf 19 [0, 3, 4] [D.v (Value.int IntKind.i64 i), D.v (Value.int IntKind.u64 (1 : Int)), D.v (Value.int IntKind.i64 (0 : Int))] [])))) hmG Try.func130 (by kernel_rfl) (by kernel_rfl) (fun G R => by kernel_rfl) ?_
  try dsimp only
  unfold bitN
  by_cases h : i < 0 ∨ 63 < i
  · rw [if_pos h]
    simp (disch := omega) only [wrG, sameK_iff, true_and, and_true, decide_eq_true_eq, decide_eq_false_iff_not, ne_eq, not_false_eq_true, Bool.false_eq_true, Bool.true_eq_false, false_implies, true_implies, Ty.dflt, reduceCtorEq, beq_iff_eq, bne_iff_ne, beq_eq_false_iff_ne, bne_eq_false_iff_eq, Bool.not_eq_true, Bool.not_eq_eq_eq_not, Bool.not_true, Bool.not_false, gt_iff_lt, ge_iff_le, Int.not_lt, Int.not_le]
    repeat' (first | with_reducible refine And.intro ?_ ?_ | intro _)
    all_goals first | rfl | omega | assumption | trivial | (exfalso; simp_all; done) | (exfalso; omega) | skip
  · rw [if_neg h]
    have hx := e130 i (by omega) i.toNat 0 1 (by omega) rfl
    simp (disch := omega) only [wrG, sameK_iff, true_and, and_true, decide_eq_true_eq, decide_eq_false_iff_not, ne_eq, not_false_eq_true, Bool.false_eq_true, Bool.true_eq_false, false_implies, true_implies, Ty.dflt, reduceCtorEq, beq_iff_eq, bne_iff_ne, beq_eq_false_iff_ne, bne_eq_false_iff_eq, Bool.not_eq_true, Bool.not_eq_eq_eq_not, Bool.not_true, Bool.not_false, gt_iff_lt, ge_iff_le, Int.not_lt, Int.not_le]
    repeat' (first | with_reducible refine And.intro ?_ ?_ | intro _)
    all_goals first | rfl | omega | assumption | trivial | exact hx | (exfalso; simp_all; done) | skip
theorem d111 (m : Nat) (i : Int) (hm : m < W64) : Con Try.prog 111 [] [u64 m, .v (.int .i64 i)] ((.v (.bool (hasN m i)))) [] [] := by
  have c := d130 i
  have hm' : m < 18446744073709551616 := hm
  have wq : IntKind.u64.wrap ((m : Int).tdiv ((bitN i : Nat) : Int)) = (m : Int) / ((bitN i : Nat) : Int) := by
    rw [Int.tdiv_eq_ediv_of_nonneg (Int.natCast_nonneg _)]
    have h1 : (m : Int) / ((bitN i : Nat) : Int) = ((m / bitN i : Nat) : Int) := (Int.natCast_ediv _ _).symm
    have h2 : m / bitN i ≤ m := Nat.div_le_self _ _
    rw [h1]
    exact wrU' (Nat.lt_of_le_of_lt h2 hm)
  have ht : ((m : Int) / ((2 ^ i.toNat : Nat) : Int)).tmod 2 = (m : Int) / ((2 ^ i.toNat : Nat) : Int) % 2 := Int.tmod_eq_emod_of_nonneg (by rw [← Int.natCast_ediv]; exact Int.natCast_nonneg _)
  refine con_vc (how := [none]) (c := n111) (K := (KK n111)) spNm (fun _ => []) (fun _ => []) 400 (.fork (.t .stop) (.fork .stop .stop)) (V := fun G R => (decide (i < (0 : Int)) = true → true = true ∧ R (D.v (Value.bool false), [], [])) ∧ (decide (i < (0 : Int)) = false → (decide (i > (63 : Int)) = true → R (D.v (Value.bool false), [], [])) ∧ (decide (i > (63 : Int)) = false → Con Try.prog 130 [] [D.v (Value.int IntKind.i64 i)] (D.v (Value.int IntKind.u64 (↑(bitN i) : Int))) [] [] ∧ Value.int IntKind.i64 i = Value.int IntKind.i64 i ∧ (↑(bitN i) : Int) ≠ (0 : Int) ∧ (2 : Int) ≠ (0 : Int) ∧ R (D.v (Value.bool ((IntKind.u64.wrap ((↑m : Int).tdiv (↑(bitN i) : Int))).tmod (2 : Int) == (1 : Int))), [], [])))) hmG Try.func111 (by kernel_rfl) (by kernel_rfl) (fun G R => by kernel_rfl) ?_
  try dsimp only
  by_cases h : 0 ≤ i ∧ i ≤ 63
  · have hb : bitN i = 2 ^ i.toNat := if_neg (by omega)
    rw [wq, hb, ht, has_div h.1 h.2]
    rw [hb] at c
    have hp : 0 < 2 ^ i.toNat := Nat.two_pow_pos _
    have e : (((m : Int) / ((2 ^ i.toNat : Nat) : Int) % 2) == 1) = decide ((m : Int) / ((2 ^ i.toNat : Nat) : Int) % 2 = 1) := by
      apply Bool.eq_iff_iff.2
      simp
    rw [e]
    simp (disch := omega) only [wrG, sameK_iff, true_and, and_true, decide_eq_true_eq, decide_eq_false_iff_not, ne_eq, not_false_eq_true, Bool.false_eq_true, Bool.true_eq_false, false_implies, true_implies, Ty.dflt, reduceCtorEq, beq_iff_eq, bne_iff_ne, beq_eq_false_iff_ne, bne_eq_false_iff_eq, Bool.not_eq_true, Bool.not_eq_eq_eq_not, Bool.not_true, Bool.not_false, gt_iff_lt, ge_iff_le, Int.not_lt, Int.not_le]
    repeat' (first | with_reducible refine And.intro ?_ ?_ | intro _)
    all_goals first | rfl | omega | assumption | trivial | (exfalso; simp_all; done) | skip
  · have e : hasN m i = false := by
      unfold hasN
      by_cases h1 : 0 ≤ i
      · rw [decide_eq_false (show ¬ i < 64 by omega)]; simp
      · rw [decide_eq_false h1]; simp
    rw [e]
    simp (disch := omega) only [wrG, sameK_iff, true_and, and_true, decide_eq_true_eq, decide_eq_false_iff_not, ne_eq, not_false_eq_true, Bool.false_eq_true, Bool.true_eq_false, false_implies, true_implies, Ty.dflt, reduceCtorEq, beq_iff_eq, bne_iff_ne, beq_eq_false_iff_ne, bne_eq_false_iff_eq, Bool.not_eq_true, Bool.not_eq_eq_eq_not, Bool.not_true, Bool.not_false, gt_iff_lt, ge_iff_le, Int.not_lt, Int.not_le]
    repeat' (first | with_reducible refine And.intro ?_ ?_ | intro _)
    all_goals first | rfl | omega | assumption | trivial | (exfalso; simp_all; done) | (exfalso; omega) | skip
theorem of_step (acc : Nat) (a : Int) (h0 : 0 ≤ a) (h1 : a < 64) (hb : acc < W64) : IntKind.u64.wrap ((BitVec.ofInt 64 (acc : Int) ||| BitVec.ofInt 64 ((2 ^ a.toNat : Nat) : Int)).toNat : Int) = ((acc ||| 2 ^ a.toNat : Nat) : Int) := by
  have hlt := u64_mask (t := a.toNat) (by omega)
  rw [orU hb hlt]
  exact wrU' (or_lt hb hlt)
def vq11 (L : List Int) (k : Int) (b : Nat) (G : Nat → St → Prop) (R : D × List (Option Row) × List Row → Prop) : Prop := let yy0 := (L.getD k.toNat (Ty.int IntKind.i64).dflt); let yy1 := (Value.int IntKind.i64 (IntKind.i64.wrap (k + (1 : Int)))); let yy2 := (Value.int IntKind.u64 (↑b : Int)); let yy3 := (Ty.int IntKind.i64); let yy4 := (↑L.length : Int); (decide (k < yy4) = true → (0 : Int) ≤ k ∧ k < yy4 ∧ (decide (L.getD k.toNat yy3.dflt ≥ (0 : Int)) = true → (0 : Int) ≤ k ∧ k < yy4 ∧ (decide (L.getD k.toNat yy3.dflt ≤ (63 : Int)) = true → (0 : Int) ≤ k ∧ k < yy4 ∧ Con Try.prog 111 [] [D.v yy2, D.v (Value.int IntKind.i64 yy0)] (D.v (Value.bool (hasN (↑b : Int).toNat yy0))) [] [] ∧ Value.int IntKind.u64 (↑b : Int) = Value.int IntKind.u64 (↑b : Int) ∧ Value.int IntKind.i64 yy0 = Value.int IntKind.i64 yy0 ∧ ((!hasN (↑b : Int).toNat yy0) = true → (0 : Int) ≤ k ∧ k < yy4 ∧ Con Try.prog 130 [] [D.v (Value.int IntKind.i64 yy0)] (D.v (Value.int IntKind.u64 (↑(bitN yy0) : Int))) [] [] ∧ Value.int IntKind.i64 yy0 = Value.int IntKind.i64 yy0 ∧ SameK (KK n117 0) (KK n117 0) ∧ G 0 (stOf 40 [0, 3, 4] [D.sl false false yy3 L, D.v (Value.int IntKind.u64 (IntKind.u64.wrap ((↑b : Int) + (↑(bitN yy0) : Int)))), D.v yy1] [])) ∧ ((!hasN (↑b : Int).toNat yy0) = false → SameK (KK n117 0) (KK n117 0) ∧ G 0 (stOf 40 [0, 3, 4] [D.sl false false yy3 L, D.v yy2, D.v yy1] []))) ∧ (decide (L.getD k.toNat yy3.dflt ≤ (63 : Int)) = false → false = false ∧ SameK (KK n117 0) (KK n117 0) ∧ G 0 (stOf 40 [0, 3, 4] [D.sl false false yy3 L, D.v yy2, D.v yy1] []))) ∧ (decide (L.getD k.toNat yy3.dflt ≥ (0 : Int)) = false → false = false ∧ false = false ∧ SameK (KK n117 0) (KK n117 0) ∧ G 0 (stOf 40 [0, 3, 4] [D.sl false false yy3 L, D.v yy2, D.v yy1] []))) ∧ (decide (k < yy4) = false → R (D.v yy2, [], []))
theorem e117 (L : List Int) (hL : (L.length : Int) ≤ 9223372036854775807) (z : Nat) : ∀ (k : Int) (b : Nat), 0 ≤ k → k + z = L.length → b < W64 → ∀ r, r = ofA b (L.drop k.toNat) → GetsK Try.prog Try.f117.results.toList [none] (KK n117) 0 (.v (.int .u64 ((r : Nat) : Int)), [], []) 0 (stOf 40 [0,3,4] [slI L, .v (.int .u64 (b : Int)), .v (.int .i64 k)] []) := by
  induction z with
  | zero =>
    intro k b k0 hk hb r hr
    rw [List.drop_eq_nil_of_le (by omega)] at hr
    have hr : r = b := hr
    rw [hr]
    refine gets_vc spNm (fun _ => [0,3,4]) (fun _ => []) 400 (.fork (.fork (.fork (.fork (.hd 0) (.hd 0)) (.f (.hd 0))) (.f (.f (.hd 0)))) .stop) (V := vq11 L k b) hmG (fun G R => by kernel_rfl) ?_
    unfold vq11
    try dsimp only
    simp (disch := omega) only [wrG, sameK_iff, true_and, and_true, decide_eq_true_eq, decide_eq_false_iff_not, ne_eq, not_false_eq_true, Bool.false_eq_true, Bool.true_eq_false, false_implies, true_implies, Ty.dflt, reduceCtorEq, beq_iff_eq, bne_iff_ne, beq_eq_false_iff_ne, bne_eq_false_iff_eq, Bool.not_eq_true, Bool.not_eq_eq_eq_not, Bool.not_true, Bool.not_false, gt_iff_lt, ge_iff_le, Int.not_lt, Int.not_le]
    repeat' (first | with_reducible refine And.intro ?_ ?_ | intro _)
    all_goals first | rfl | omega | assumption | trivial | (exfalso; simp_all; done) | (exfalso; omega) | skip
  | succ z ih =>
    intro k b k0 hk hb r hr
    have hd := drop_at (xs := L) (i := k) (0 : Int) k0 (by omega)
    rw [hd] at hr
    simp only [ofA] at hr
    refine gets_vc spNm (fun _ => [0,3,4]) (fun _ => []) 400 (.fork (.fork (.fork (.fork (.hd 0) (.hd 0)) (.f (.hd 0))) (.f (.f (.hd 0)))) .stop) (V := vq11 L k b) hmG (fun G R => by kernel_rfl) ?_
    unfold vq11
    try dsimp only
    simp only [Ty.dflt]
    clear hd
    obtain ⟨a, ha⟩ : ∃ a, L.getD k.toNat (0 : Int) = a := ⟨_, rfl⟩
    simp only [ha] at hr ⊢
    have hk1 : IntKind.i64.wrap (k + 1) = k + 1 := wrG (by omega) (by omega)
    rw [hk1]
    have c := d111 b a hb
    have c2 := d130 a
    simp only [Int.toNat_natCast]
    by_cases h : 0 ≤ a ∧ a < 64
    · rw [if_pos h] at hr
      have hbit : bitN a = 2 ^ a.toNat := if_neg (by omega)
      have hhas : hasN b a = b.testBit a.toNat := by unfold hasN; rw [decide_eq_true h.1, decide_eq_true h.2]; rfl
      rw [hbit] at c2 ⊢
      rw [hhas] at c ⊢
      cases hb2 : b.testBit a.toNat with
      | true =>
        have e : b ||| 2 ^ a.toNat = b := by
          apply Nat.eq_of_testBit_eq
          intro j
          rw [Nat.testBit_or, Nat.testBit_two_pow]
          by_cases hj : a.toNat = j
          · rw [← hj, hb2]; rfl
          · simp [hj]
        rw [e] at hr
        have hx := ih (k + 1) b (by omega) (by omega) hb r hr
        rw [hb2] at c
        simp (disch := omega) only [wrG, sameK_iff, true_and, and_true, decide_eq_true_eq, decide_eq_false_iff_not, ne_eq, not_false_eq_true, Bool.false_eq_true, Bool.true_eq_false, false_implies, true_implies, Ty.dflt, reduceCtorEq, beq_iff_eq, bne_iff_ne, beq_eq_false_iff_ne, bne_eq_false_iff_eq, Bool.not_eq_true, Bool.not_eq_eq_eq_not, Bool.not_true, Bool.not_false, gt_iff_lt, ge_iff_le, Int.not_lt, Int.not_le]
        repeat' (first | with_reducible refine And.intro ?_ ?_ | intro _)
        all_goals first | rfl | omega | assumption | trivial | (exfalso; simp_all; done) | (exfalso; omega) | skip
      | false =>
        have hx := ih (k + 1) (b ||| 2 ^ a.toNat) (by omega) (by omega) (or_lt hb (u64_mask (by omega))) r hr
        have hw : IntKind.u64.wrap ((b : Int) + ((2 ^ a.toNat : Nat) : Int)) = ((b ||| 2 ^ a.toNat : Nat) : Int) := by
          rw [← add_or hb2, ← Int.natCast_add]
          exact wrU' (by rw [add_or hb2]; exact or_lt hb (u64_mask (by omega)))
        rw [hb2] at c
        rw [hw]
        simp (disch := omega) only [wrG, sameK_iff, true_and, and_true, decide_eq_true_eq, decide_eq_false_iff_not, ne_eq, not_false_eq_true, Bool.false_eq_true, Bool.true_eq_false, false_implies, true_implies, Ty.dflt, reduceCtorEq, beq_iff_eq, bne_iff_ne, beq_eq_false_iff_ne, bne_eq_false_iff_eq, Bool.not_eq_true, Bool.not_eq_eq_eq_not, Bool.not_true, Bool.not_false, gt_iff_lt, ge_iff_le, Int.not_lt, Int.not_le]
        repeat' (first | with_reducible refine And.intro ?_ ?_ | intro _)
        all_goals first | rfl | omega | assumption | trivial | (exfalso; simp_all; done) | (exfalso; omega) | skip
    · rw [if_neg h] at hr
      have hx := ih (k + 1) b (by omega) (by omega) hb r hr
      simp (disch := omega) only [wrG, sameK_iff, true_and, and_true, decide_eq_true_eq, decide_eq_false_iff_not, ne_eq, not_false_eq_true, Bool.false_eq_true, Bool.true_eq_false, false_implies, true_implies, Ty.dflt, reduceCtorEq, beq_iff_eq, bne_iff_ne, beq_eq_false_iff_ne, bne_eq_false_iff_eq, Bool.not_eq_true, Bool.not_eq_eq_eq_not, Bool.not_true, Bool.not_false, gt_iff_lt, ge_iff_le, Int.not_lt, Int.not_le]
      repeat' (first | with_reducible refine And.intro ?_ ?_ | intro _)
      all_goals first | rfl | omega | assumption | trivial | (exfalso; simp_all; done) | (exfalso; omega) | skip
theorem d117 (L : List Int) (hL : (L.length : Int) ≤ 9223372036854775807) : Con Try.prog 117 [] [slI L] ((.v (.int .u64 (ofN L : Nat)))) [] [] := by
  refine con_vc (how := [none]) (c := n117) (K := (KK n117)) spNm (fun _ => [0,3,4]) (fun _ => []) 400 (.hd 0) (V := fun G R => SameK (KK n117 0) (KK n117 0) ∧ G 0 (stOf 40 [0, 3, 4] [D.sl false false (Ty.int IntKind.i64) L, D.v (Value.int IntKind.u64 (0 : Int)), D.v (Value.int IntKind.i64 (0 : Int))] [])) hmG Try.func117 (by kernel_rfl) (by kernel_rfl) (fun G R => by kernel_rfl) ?_
  try dsimp only
  have hx := e117 L hL L.length 0 0 (by omega) (by omega) (by decide) (ofN L) rfl
  simp (disch := omega) only [wrG, sameK_iff, true_and, and_true, decide_eq_true_eq, decide_eq_false_iff_not, ne_eq, not_false_eq_true, Bool.false_eq_true, Bool.true_eq_false, false_implies, true_implies, Ty.dflt, reduceCtorEq, beq_iff_eq, bne_iff_ne, beq_eq_false_iff_ne, bne_eq_false_iff_eq, Bool.not_eq_true, Bool.not_eq_eq_eq_not, Bool.not_true, Bool.not_false, gt_iff_lt, ge_iff_le, Int.not_lt, Int.not_le]
  repeat' (first | with_reducible refine And.intro ?_ ?_ | intro _)
  all_goals first | rfl | omega | assumption | trivial | (exfalso; simp_all; done) | (exfalso; omega) | skip
theorem low_step (a c k : Nat) : (a &&& c) % 2 ^ (k + 1) = if a.testBit k && c.testBit k then (a &&& c) % 2 ^ k ||| 2 ^ k else (a &&& c) % 2 ^ k := by
  apply Nat.eq_of_testBit_eq
  intro j
  rw [Nat.testBit_mod_two_pow]
  have e : (a &&& c).testBit k = (a.testBit k && c.testBit k) := Nat.testBit_and _ _ _
  split
  · rename_i h
    rw [h] at e
    rw [Nat.testBit_or, Nat.testBit_mod_two_pow, Nat.testBit_two_pow]
    by_cases hj : j = k
    · subst hj; simp [e]
    · by_cases hk : j < k
      · simp [hk, show j < k + 1 by omega, show ¬ k = j by omega]
      · simp [hk, show ¬ j < k + 1 by omega, show ¬ k = j by omega]
  · rename_i h
    have h : (a.testBit k && c.testBit k) = false := by simpa using h
    rw [h] at e
    rw [Nat.testBit_mod_two_pow]
    by_cases hj : j = k
    · subst hj; simp [e]
    · by_cases hk : j < k
      · simp [hk, show j < k + 1 by omega, show ¬ k = j by omega]
      · simp [hk, show ¬ j < k + 1 by omega]
theorem low_not (m k : Nat) : (m % 2 ^ k).testBit k = false := by rw [Nat.testBit_mod_two_pow]; simp
def vq12 (a : Nat) (c : Nat) (k : Nat) (b : Nat) (G : Nat → St → Prop) (R : D × List (Option Row) × List Row → Prop) : Prop := let yy0 := (Value.int IntKind.i64 (IntKind.i64.wrap ((↑k : Int) + (1 : Int)))); let yy1 := (Value.int IntKind.u64 (↑a : Int)); let yy2 := (Value.int IntKind.u64 (↑c : Int)); (decide ((↑k : Int) < (64 : Int)) = true → Con Try.prog 111 [] [D.v yy1, D.v (Value.int IntKind.i64 (↑k : Int))] (D.v (Value.bool (hasN (↑a : Int).toNat (↑k : Int)))) [] [] ∧ Value.int IntKind.u64 (↑a : Int) = Value.int IntKind.u64 (↑a : Int) ∧ Value.int IntKind.i64 (↑k : Int) = Value.int IntKind.i64 (↑k : Int) ∧ (hasN (↑a : Int).toNat (↑k : Int) = true → Con Try.prog 111 [] [D.v yy2, D.v (Value.int IntKind.i64 (↑k : Int))] (D.v (Value.bool (hasN (↑c : Int).toNat (↑k : Int)))) [] [] ∧ Value.int IntKind.u64 (↑c : Int) = Value.int IntKind.u64 (↑c : Int) ∧ Value.int IntKind.i64 (↑k : Int) = Value.int IntKind.i64 (↑k : Int) ∧ (hasN (↑c : Int).toNat (↑k : Int) = true → Con Try.prog 130 [] [D.v (Value.int IntKind.i64 (↑k : Int))] (D.v (Value.int IntKind.u64 (↑(bitN (↑k : Int)) : Int))) [] [] ∧ Value.int IntKind.i64 (↑k : Int) = Value.int IntKind.i64 (↑k : Int) ∧ SameK (KK n127 0) (KK n127 0) ∧ G 0 (stOf 24 [0, 1, 5, 6] [D.v yy1, D.v yy2, D.v (Value.int IntKind.u64 (IntKind.u64.wrap ((↑b : Int) + (↑(bitN (↑k : Int)) : Int)))), D.v yy0] [])) ∧ (hasN (↑c : Int).toNat (↑k : Int) = false → SameK (KK n127 0) (KK n127 0) ∧ G 0 (stOf 24 [0, 1, 5, 6] [D.v yy1, D.v yy2, D.v (Value.int IntKind.u64 (↑b : Int)), D.v yy0] []))) ∧ (hasN (↑a : Int).toNat (↑k : Int) = false → false = false ∧ SameK (KK n127 0) (KK n127 0) ∧ G 0 (stOf 24 [0, 1, 5, 6] [D.v yy1, D.v yy2, D.v (Value.int IntKind.u64 (↑b : Int)), D.v yy0] []))) ∧ (decide ((↑k : Int) < (64 : Int)) = false → R (D.v (Value.int IntKind.u64 (↑b : Int)), [], []))
theorem e127 (a c : Nat) (ha : a < W64) (hc : c < W64) (z : Nat) : ∀ (k b : Nat), k + z = 64 → b = (a &&& c) % 2 ^ k → GetsK Try.prog Try.f127.results.toList [none] (KK n127) 0 (.v (.int .u64 ((a &&& c : Nat) : Int)), [], []) 0 (stOf 24 [0,1,5,6] [u64 a, u64 c, .v (.int .u64 (b : Int)), .v (.int .i64 (k : Int))] []) := by
  induction z with
  | zero =>
    intro k b hk hb
    have e : b = a &&& c := by
      rw [hb, show k = 64 by omega]
      exact Nat.mod_eq_of_lt (and_lt ha)
    rw [← e]
    refine gets_vc spNm (fun _ => [0,1,5,6]) (fun _ => []) 400 (.fork (.fork (.fork (.hd 0) (.hd 0)) (.f (.hd 0))) .stop) (V := vq12 a c k b) hmG (fun G R => by kernel_rfl) ?_
    unfold vq12
    try dsimp only
    simp (disch := omega) only [wrG, sameK_iff, true_and, and_true, decide_eq_true_eq, decide_eq_false_iff_not, ne_eq, not_false_eq_true, Bool.false_eq_true, Bool.true_eq_false, false_implies, true_implies, Ty.dflt, reduceCtorEq, beq_iff_eq, bne_iff_ne, beq_eq_false_iff_ne, bne_eq_false_iff_eq, Bool.not_eq_true, Bool.not_eq_eq_eq_not, Bool.not_true, Bool.not_false, gt_iff_lt, ge_iff_le, Int.not_lt, Int.not_le]
    repeat' (first | with_reducible refine And.intro ?_ ?_ | intro _)
    all_goals first | rfl | omega | assumption | trivial | (exfalso; simp_all; done) | (exfalso; omega) | skip
  | succ z ih =>
    intro k b hk hb
    have hk1 : IntKind.i64.wrap ((k : Int) + 1) = ((k + 1 : Nat) : Int) := by rw [wrG (by omega) (by omega)]; simp
    have h1 : hasN a (k : Int) = a.testBit k := by unfold hasN; rw [decide_eq_true (by omega), decide_eq_true (by omega), Int.toNat_natCast]; rfl
    have h2 : hasN c (k : Int) = c.testBit k := by unfold hasN; rw [decide_eq_true (by omega), decide_eq_true (by omega), Int.toNat_natCast]; rfl
    have c1 := d111 a (k : Int) ha
    have c2 := d111 c (k : Int) hc
    have c3 := d130 (k : Int)
    have hbit : bitN (k : Int) = 2 ^ k := by unfold bitN; rw [if_neg (by omega), Int.toNat_natCast]
    have hblt : b < W64 := by rw [hb]; exact Nat.lt_of_le_of_lt (Nat.mod_le _ _) (and_lt ha)
    have hnb : b.testBit k = false := by rw [hb]; exact low_not _ _
    have hw : IntKind.u64.wrap ((b : Int) + ((2 ^ k : Nat) : Int)) = ((b ||| 2 ^ k : Nat) : Int) := by
      rw [← add_or hnb, ← Int.natCast_add]
      exact wrU' (by rw [add_or hnb]; exact or_lt hblt (u64_mask (by omega)))
    have hs := low_step a c k
    rw [← hb] at hs
    rw [h1] at c1
    rw [h2] at c2
    rw [hbit] at c3
    refine gets_vc spNm (fun _ => [0,1,5,6]) (fun _ => []) 400 (.fork (.fork (.fork (.hd 0) (.hd 0)) (.f (.hd 0))) .stop) (V := vq12 a c k b) hmG (fun G R => by kernel_rfl) ?_
    unfold vq12
    try dsimp only
    simp only [Int.toNat_natCast, h1, h2, hk1, hbit, hw]
    cases hta : a.testBit k <;> cases htc : c.testBit k <;> rw [hta] at c1 hs <;> rw [htc] at c2 hs <;> simp only [Bool.and_true, Bool.and_false, if_true, Bool.false_eq_true, if_false] at hs <;> have hx := ih (k + 1) _ (by omega) hs.symm
    all_goals simp (disch := omega) only [wrG, sameK_iff, true_and, and_true, decide_eq_true_eq, decide_eq_false_iff_not, ne_eq, not_false_eq_true, Bool.false_eq_true, Bool.true_eq_false, false_implies, true_implies, Ty.dflt, reduceCtorEq, beq_iff_eq, bne_iff_ne, beq_eq_false_iff_ne, bne_eq_false_iff_eq, Bool.not_eq_true, Bool.not_eq_eq_eq_not, Bool.not_true, Bool.not_false, gt_iff_lt, ge_iff_le, Int.not_lt, Int.not_le]; repeat' (first | with_reducible refine And.intro ?_ ?_ | intro _)
    all_goals first | rfl | omega | assumption | trivial | (exfalso; simp_all; done) | (exfalso; omega) | skip
theorem d127 (a c : Nat) (ha : a < W64) (hc : c < W64) : Con Try.prog 127 [] [u64 a, u64 c] ((.v (.int .u64 ((a &&& c : Nat) : Int)))) [] [] := by
  refine con_vc (how := [none]) (c := n127) (K := (KK n127)) spNm (fun _ => [0,1,5,6]) (fun _ => []) 400 (.hd 0) (V := fun G R => SameK (KK n127 0) (KK n127 0) ∧ G 0 (stOf 24 [0, 1, 5, 6] [D.v (Value.int IntKind.u64 (↑a : Int)), D.v (Value.int IntKind.u64 (↑c : Int)), D.v (Value.int IntKind.u64 (0 : Int)), D.v (Value.int IntKind.i64 (0 : Int))] [])) hmG Try.func127 (by kernel_rfl) (by kernel_rfl) (fun G R => by kernel_rfl) ?_
  try dsimp only
  have hx := e127 a c ha hc 64 0 0 (by omega) (by simp [Nat.mod_one])
  simp (disch := omega) only [wrG, sameK_iff, true_and, and_true, decide_eq_true_eq, decide_eq_false_iff_not, ne_eq, not_false_eq_true, Bool.false_eq_true, Bool.true_eq_false, false_implies, true_implies, Ty.dflt, reduceCtorEq, beq_iff_eq, bne_iff_ne, beq_eq_false_iff_ne, bne_eq_false_iff_eq, Bool.not_eq_true, Bool.not_eq_eq_eq_not, Bool.not_true, Bool.not_false, gt_iff_lt, ge_iff_le, Int.not_lt, Int.not_le]
  repeat' (first | with_reducible refine And.intro ?_ ?_ | intro _)
  all_goals first | rfl | omega | assumption | trivial | (exfalso; simp_all; done) | (exfalso; omega) | skip
end Go.Proofs.YtnakmganodkliaaAm
namespace Go.Proofs.YtnakmganodkliaaAm
open Go
abbrev Slt := Int × Bool × List Int
def Mi (l : List Nat) : List Int := l.map (fun n : Nat => (n : Int))
def fitL (m : List Nat) (cs w : List Int) : Bool := w.length == cs.length && (cs.zip w).all fun q => hasN (m.getD q.1.toNat 0) q.2
def idxF (f : List Int → Bool) : Int → List (List Int) → List Int
  | _, [] => []
  | i, w :: ws => if f w then i :: idxF f (i + 1) ws else idxF f (i + 1) ws
def thereF (W : List (List Int)) (ok : List Int → Bool) (k : Nat) : Nat := ofN ((W.filter ok).map (·.getD k 0))
def meetL (th : Nat → Nat) : Nat → List Int → List Nat → List Nat
  | _, [], m => m
  | k, c :: cs, m => meetL th (k + 1) cs (m.set c.toNat (m.getD c.toNat 0 &&& th k))
def onceFrom (W : List (List Int)) (m : List Nat) : List Slt → List Nat → List Nat
  | [], nx => nx
  | s :: S, nx => onceFrom W m S (meetL (thereF W (fitL m s.2.2)) 0 s.2.2 nx)
def onceF (W : List (List Int)) (S : List Slt) (m : List Nat) : List Nat := onceFrom W m S m
def fixF (W : List (List Int)) (S : List Slt) : Nat → List Nat → List Nat
  | 0, m => m
  | n + 1, m => if onceF W S m = m then m else fixF W S n (onceF W S m)
def gfpF (W : List (List Int)) (S : List Slt) (m : List Nat) : List Nat := fixF W S (m.sum + 1) m
def bitAt (m : List Nat) (c i : Nat) : Prop := (m.getD c 0).testBit i = true
def Leq (a b : List Nat) : Prop := ∀ c i, bitAt a c i → bitAt b c i
theorem Leq.refl (a : List Nat) : Leq a a := fun _ _ h => h
theorem Leq.trans {a b c : List Nat} (h : Leq a b) (k : Leq b c) : Leq a c := fun x i hx => k x i (h x i hx)
theorem bit_lt {m : List Nat} {c i : Nat} (h : bitAt m c i) : c < m.length := by
  apply Nat.lt_of_not_le
  intro hle
  unfold bitAt at h
  rw [List.getD_eq_getElem?_getD, List.getElem?_eq_none hle] at h
  simp at h
theorem leq_antisymm {a b : List Nat} (hl : a.length = b.length) (h1 : Leq a b) (h2 : Leq b a) : a = b := by
  apply List.ext_getElem hl
  intro c hc hc'
  apply Nat.eq_of_testBit_eq
  intro i
  have e1 : a.getD c 0 = a[c] := by rw [List.getD_eq_getElem?_getD, List.getElem?_eq_getElem hc]; rfl
  have e2 : b.getD c 0 = b[c] := by rw [List.getD_eq_getElem?_getD, List.getElem?_eq_getElem hc']; rfl
  have g1 := h1 c i
  have g2 := h2 c i
  unfold bitAt at g1 g2
  rw [e1, e2] at g1 g2
  exact Bool.eq_iff_iff.2 ⟨g1, g2⟩
theorem getD_set_nat (m : List Nat) (c v d : Nat) : (m.set c v).getD d 0 = if c = d ∧ c < m.length then v else m.getD d 0 := by
  simp only [List.getD_eq_getElem?_getD, List.getElem?_set]
  by_cases h : c = d
  · subst h
    by_cases h2 : c < m.length <;> simp [h2]
  · simp [h]
theorem meet_len (th : Nat → Nat) : ∀ (cs : List Int) (k : Nat) (m : List Nat), (meetL th k cs m).length = m.length
  | [], _, _ => rfl
  | c :: cs, k, m => by simp only [meetL]; rw [meet_len th cs]; simp
theorem meet_bits (th : Nat → Nat) : ∀ (cs : List Int) (k : Nat) (m : List Nat) (c i : Nat), bitAt (meetL th k cs m) c i ↔ bitAt m c i ∧ ∀ j x, cs[j]? = some x → x.toNat = c → (th (k + j)).testBit i = true
  | [], k, m, c, i => by simp [meetL]
  | a :: cs, k, m, c, i => by
    simp only [meetL]
    rw [meet_bits th cs (k + 1)]
    have hset : bitAt (m.set a.toNat (m.getD a.toNat 0 &&& th k)) c i ↔ bitAt m c i ∧ (a.toNat = c → (th k).testBit i = true) := by
      unfold bitAt
      rw [getD_set_nat]
      by_cases h : a.toNat = c
      · subst h
        by_cases h2 : a.toNat < m.length
        · rw [if_pos ⟨rfl, h2⟩, Nat.testBit_and, Bool.and_eq_true]
          simp
        · rw [if_neg (fun e => h2 e.2)]
          have : m.getD a.toNat 0 = 0 := by rw [List.getD_eq_getElem?_getD, List.getElem?_eq_none (by omega)]; rfl
          rw [this]; simp
      · rw [if_neg (fun e => h e.1)]
        simp [h]
    rw [hset]
    constructor
    · rintro ⟨⟨h1, h2⟩, h3⟩
      refine ⟨h1, fun j x hx hc => ?_⟩
      cases j with
      | zero => simp at hx; subst hx; exact h2 hc
      | succ j => have := h3 j x (by simpa using hx) hc; rwa [show k + 1 + j = k + (j + 1) by omega] at this
    · rintro ⟨h1, h2⟩
      refine ⟨⟨h1, fun hc => by simpa using h2 0 a rfl hc⟩, fun j x hx hc => ?_⟩
      have := h2 (j + 1) x (by simpa using hx) hc
      rwa [show k + (j + 1) = k + 1 + j by omega] at this
theorem onceFrom_len (W : List (List Int)) (m : List Nat) : ∀ (S : List Slt) (nx : List Nat), (onceFrom W m S nx).length = nx.length
  | [], _ => rfl
  | s :: S, nx => by simp only [onceFrom]; rw [onceFrom_len W m S, meet_len]
theorem once_len (W : List (List Int)) (S : List Slt) (m : List Nat) : (onceF W S m).length = m.length := onceFrom_len W m S m
theorem onceFrom_bits (W : List (List Int)) (m : List Nat) : ∀ (S : List Slt) (nx : List Nat) (c i : Nat), bitAt (onceFrom W m S nx) c i ↔ bitAt nx c i ∧ ∀ s ∈ S, ∀ j x, s.2.2[j]? = some x → x.toNat = c → (thereF W (fitL m s.2.2) j).testBit i = true
  | [], nx, c, i => by simp [onceFrom]
  | s :: S, nx, c, i => by
    simp only [onceFrom]
    rw [onceFrom_bits W m S, meet_bits]
    simp only [Nat.zero_add, List.mem_cons, forall_eq_or_imp]
    exact ⟨fun ⟨⟨a, b⟩, c⟩ => ⟨a, b, c⟩, fun ⟨a, b, c⟩ => ⟨⟨a, b⟩, c⟩⟩
theorem once_bits (W : List (List Int)) (S : List Slt) (m : List Nat) (c i : Nat) : bitAt (onceF W S m) c i ↔ bitAt m c i ∧ ∀ s ∈ S, ∀ j x, s.2.2[j]? = some x → x.toNat = c → (thereF W (fitL m s.2.2) j).testBit i = true := onceFrom_bits W m S m c i
theorem there_bits (W : List (List Int)) (ok : List Int → Bool) (k i : Nat) : (thereF W ok k).testBit i = true ↔ i < 64 ∧ ∃ w ∈ W, ok w = true ∧ w.getD k 0 = (i : Int) := by
  unfold thereF ofN
  rw [of_bits, Nat.zero_testBit, Bool.false_or, Bool.and_eq_true, decide_eq_true_eq, decide_eq_true_eq, List.mem_map]
  refine and_congr Iff.rfl ⟨?_, ?_⟩
  · rintro ⟨w, hw, e⟩
    rw [List.mem_filter] at hw
    exact ⟨w, hw.1, hw.2, e⟩
  · rintro ⟨w, h1, h2, e⟩
    exact ⟨w, List.mem_filter.2 ⟨h1, h2⟩, e⟩
theorem fit_iff (m : List Nat) (cs w : List Int) : fitL m cs w = true ↔ w.length = cs.length ∧ ∀ j x, cs[j]? = some x → hasN (m.getD x.toNat 0) (w.getD j 0) = true := by
  unfold fitL
  rw [Bool.and_eq_true, beq_iff_eq, List.all_eq_true]
  refine and_congr_right fun hl => ⟨?_, ?_⟩
  · intro h j x hx
    have hj : j < cs.length := (List.getElem?_eq_some_iff.1 hx).1
    have hw : w[j]? = some (w.getD j 0) := by simp [List.getD_eq_getElem?_getD, show j < w.length by omega]
    exact h (x, w.getD j 0) (List.mem_of_getElem? (i := j) (by rw [List.getElem?_zip_eq_some]; exact ⟨hx, hw⟩))
  · rintro h ⟨x, y⟩ hq
    obtain ⟨j, hj⟩ := List.getElem?_of_mem hq
    rw [List.getElem?_zip_eq_some] at hj
    have := h j x hj.1
    have e : w.getD j 0 = y := by rw [List.getD_eq_getElem?_getD, hj.2]; rfl
    rw [e] at this
    exact this
theorem has_bit {m : List Nat} {c : Nat} {x : Int} : hasN (m.getD c 0) x = true ↔ 0 ≤ x ∧ x < 64 ∧ bitAt m c x.toNat := by
  unfold hasN bitAt
  simp only [Bool.and_eq_true, decide_eq_true_eq]
theorem fit_mono {a b : List Nat} (h : Leq a b) {cs w : List Int} (hf : fitL a cs w = true) : fitL b cs w = true := by
  rw [fit_iff] at hf ⊢
  refine ⟨hf.1, fun j x hx => ?_⟩
  have := has_bit.1 (hf.2 j x hx)
  exact has_bit.2 ⟨this.1, this.2.1, h _ _ this.2.2⟩
def Stable1 (W : List (List Int)) (m : List Nat) (s : Slt) : Prop := ∀ j x, s.2.2[j]? = some x → ∀ i, bitAt m x.toNat i → (thereF W (fitL m s.2.2) j).testBit i = true
def Stable (W : List (List Int)) (S : List Slt) (m : List Nat) : Prop := ∀ s ∈ S, Stable1 W m s
theorem once_leq (W : List (List Int)) (S : List Slt) (m : List Nat) : Leq (onceF W S m) m := fun c i h => ((once_bits W S m c i).1 h).1
theorem stable_iff (W : List (List Int)) (S : List Slt) (m : List Nat) : onceF W S m = m ↔ Stable W S m := by
  constructor
  · intro h s hs j x hx i hb
    rw [← h] at hb
    exact ((once_bits W S m _ i).1 hb).2 s hs j x hx rfl
  · intro h
    refine leq_antisymm (once_len W S m) (once_leq W S m) fun c i hb => (once_bits W S m c i).2 ⟨hb, fun s hs j x hx hc => ?_⟩
    subst hc
    exact h s hs j x hx i hb
theorem below_once {W : List (List Int)} {S : List Slt} {a m : List Nat} (ha : Stable W S a) (h : Leq a m) : Leq a (onceF W S m) := fun c i hb => by
  refine (once_bits W S m c i).2 ⟨h c i hb, fun s hs j x hx hc => ?_⟩
  subst hc
  have h1 := (there_bits W _ j i).1 (ha s hs j x hx i hb)
  obtain ⟨hi, w, hw, hf, e⟩ := h1
  exact (there_bits W _ j i).2 ⟨hi, w, hw, fit_mono h hf, e⟩
theorem sub_le {a b : Nat} (h : ∀ i, a.testBit i = true → b.testBit i = true) : a ≤ b := by
  have e : a &&& b = a := by
    apply Nat.eq_of_testBit_eq
    intro i
    rw [Nat.testBit_and]
    cases hb : a.testBit i with
    | false => rfl
    | true => rw [h i hb]; rfl
  rw [← e]; exact Nat.and_le_right
theorem sum_lt : ∀ {a b : List Nat}, a.length = b.length → (∀ c, a.getD c 0 ≤ b.getD c 0) → a ≠ b → a.sum < b.sum
  | [], [], _, _, h => absurd rfl h
  | [], _ :: _, hl, _, _ => by simp at hl
  | _ :: _, [], hl, _, _ => by simp at hl
  | x :: a, y :: b, hl, hle, hne => by
    have h0 : x ≤ y := by simpa using hle 0
    have hl' : a.length = b.length := by simpa using hl
    have hle' : ∀ c, a.getD c 0 ≤ b.getD c 0 := fun c => by simpa using hle (c + 1)
    simp only [List.sum_cons]
    by_cases e : a = b
    · subst e
      have : x ≠ y := fun h => hne (by rw [h])
      omega
    · have := sum_lt hl' hle' e
      omega
theorem once_sum {W : List (List Int)} {S : List Slt} {m : List Nat} (h : onceF W S m ≠ m) : (onceF W S m).sum < m.sum :=
  sum_lt (once_len W S m) (fun c => sub_le fun i hi => once_leq W S m c i hi) h
theorem fix_facts (W : List (List Int)) (S : List Slt) : ∀ (n : Nat) (m : List Nat), m.sum < n → Stable W S (fixF W S n m) ∧ Leq (fixF W S n m) m ∧ (fixF W S n m).length = m.length ∧ ∀ a, Stable W S a → Leq a m → Leq a (fixF W S n m)
  | 0, m, h => by omega
  | n + 1, m, h => by
    simp only [fixF]
    by_cases e : onceF W S m = m
    · rw [if_pos e]
      exact ⟨(stable_iff W S m).1 e, Leq.refl m, rfl, fun a _ h => h⟩
    · rw [if_neg e]
      have hs := once_sum e
      obtain ⟨h1, h2, h3, h4⟩ := fix_facts W S n (onceF W S m) (by omega)
      exact ⟨h1, h2.trans (once_leq W S m), h3.trans (once_len W S m), fun a ha hl => h4 a ha (below_once ha hl)⟩
theorem gfp_stable (W : List (List Int)) (S : List Slt) (m : List Nat) : Stable W S (gfpF W S m) := (fix_facts W S _ m (by omega)).1
theorem gfp_leq (W : List (List Int)) (S : List Slt) (m : List Nat) : Leq (gfpF W S m) m := (fix_facts W S _ m (by omega)).2.1
theorem gfp_len (W : List (List Int)) (S : List Slt) (m : List Nat) : (gfpF W S m).length = m.length := (fix_facts W S _ m (by omega)).2.2.1
theorem gfp_most (W : List (List Int)) (S : List Slt) (m : List Nat) {a : List Nat} (ha : Stable W S a) (h : Leq a m) : Leq a (gfpF W S m) := (fix_facts W S _ m (by omega)).2.2.2 a ha h
theorem gfp_eq {W : List (List Int)} {S : List Slt} {m x : List Nat} (hl : x.length = m.length) (hx : Stable W S x) (h1 : Leq x m) (h2 : Leq (gfpF W S m) x) : x = gfpF W S m :=
  leq_antisymm (hl.trans (gfp_len W S m).symm) (gfp_most W S m hx h1) h2
theorem fix_step {W : List (List Int)} {S : List Slt} {m : List Nat} (h : onceF W S m ≠ m) : gfpF W S (onceF W S m) = gfpF W S m := by
  refine leq_antisymm (by rw [gfp_len, gfp_len, once_len]) ?_ ?_
  · exact gfp_most W S m (gfp_stable W S _) ((gfp_leq W S _).trans (once_leq W S m))
  · exact gfp_most W S _ (gfp_stable W S m) (below_once (gfp_stable W S m) (gfp_leq W S m))
theorem gfp_same {W : List (List Int)} {S : List Slt} {m : List Nat} (h : onceF W S m = m) : gfpF W S m = m := by
  unfold gfpF
  simp only [fixF]
  rw [if_pos h]
def lookF (W : List (List Int)) (m : List Nat) (s : Slt) : List Nat := meetL (thereF W (fitL m s.2.2)) 0 s.2.2 m
theorem look_len (W : List (List Int)) (m : List Nat) (s : Slt) : (lookF W m s).length = m.length := meet_len _ _ _ _
theorem look_bits (W : List (List Int)) (m : List Nat) (s : Slt) (c i : Nat) : bitAt (lookF W m s) c i ↔ bitAt m c i ∧ ∀ j x, s.2.2[j]? = some x → x.toNat = c → (thereF W (fitL m s.2.2) j).testBit i = true := by
  unfold lookF
  rw [meet_bits]
  simp only [Nat.zero_add]
theorem look_leq (W : List (List Int)) (m : List Nat) (s : Slt) : Leq (lookF W m s) m := fun c i h => ((look_bits W m s c i).1 h).1
theorem look_below {W : List (List Int)} {m a : List Nat} {s : Slt} (ha : Stable1 W a s) (h : Leq a m) : Leq a (lookF W m s) := fun c i hb => by
  refine (look_bits W m s c i).2 ⟨h c i hb, fun j x hx hc => ?_⟩
  subst hc
  obtain ⟨hi, w, hw, hf, e⟩ := (there_bits W _ j i).1 (ha j x hx i hb)
  exact (there_bits W _ j i).2 ⟨hi, w, hw, fit_mono h hf, e⟩
def OnceS (s : Slt) : Prop := ∀ (j k : Nat) (x y : Int), s.2.2[j]? = some x → s.2.2[k]? = some y → x.toNat = y.toNat → j = k
theorem look_fit {W : List (List Int)} {m : List Nat} {s : Slt} (ho : OnceS s) {w : List Int} (hw : w ∈ W) : fitL (lookF W m s) s.2.2 w = fitL m s.2.2 w := by
  apply Bool.eq_iff_iff.2
  refine ⟨fun h => fit_mono (look_leq W m s) h, fun h => ?_⟩
  have hf := h
  rw [fit_iff] at h ⊢
  refine ⟨h.1, fun j x hx => ?_⟩
  obtain ⟨h0, h1, h2⟩ := has_bit.1 (h.2 j x hx)
  refine has_bit.2 ⟨h0, h1, (look_bits W m s _ _).2 ⟨h2, fun k y hy e => ?_⟩⟩
  have := ho j k x y hx hy e.symm
  subst this
  exact (there_bits W _ j _).2 ⟨by omega, w, hw, hf, by omega⟩
theorem filter_same {α : Type} {f g : α → Bool} : ∀ {l : List α}, (∀ x ∈ l, f x = g x) → l.filter f = l.filter g
  | [], _ => rfl
  | x :: l, h => by
    simp only [List.filter_cons]
    rw [h x List.mem_cons_self, filter_same fun y hy => h y (List.mem_cons_of_mem _ hy)]
theorem idx_same {f g : List Int → Bool} : ∀ {W : List (List Int)} {i : Int}, (∀ w ∈ W, f w = g w) → idxF f i W = idxF g i W
  | [], _, _ => rfl
  | w :: W, i, h => by
    simp only [idxF]
    rw [h w List.mem_cons_self, idx_same fun y hy => h y (List.mem_cons_of_mem _ hy)]
theorem there_same {W : List (List Int)} {f g : List Int → Bool} (h : ∀ w ∈ W, f w = g w) (k : Nat) : thereF W f k = thereF W g k := by
  unfold thereF
  rw [filter_same h]
theorem look_stable {W : List (List Int)} {m : List Nat} {s : Slt} (ho : OnceS s) : Stable1 W (lookF W m s) s := fun j x hx i hb => by
  rw [there_same (g := fitL m s.2.2) fun w hw => look_fit ho hw]
  exact ((look_bits W m s _ i).1 hb).2 j x hx rfl
theorem fit_keep {a b : List Nat} {cs : List Int} (h : ∀ c ∈ cs, a.getD c.toNat 0 = b.getD c.toNat 0) (w : List Int) : fitL a cs w = fitL b cs w := by
  apply Bool.eq_iff_iff.2
  rw [fit_iff, fit_iff]
  refine and_congr_right fun _ => ⟨fun k j x hx => ?_, fun k j x hx => ?_⟩
  · rw [← h x (List.mem_of_getElem? hx)]; exact k j x hx
  · rw [h x (List.mem_of_getElem? hx)]; exact k j x hx
theorem stable_keep {W : List (List Int)} {a b : List Nat} {s : Slt} (h : ∀ c ∈ s.2.2, a.getD c.toNat 0 = b.getD c.toNat 0) (ha : Stable1 W a s) : Stable1 W b s := fun j x hx i hb => by
  rw [← there_same (fun w _ => fit_keep h w)]
  refine ha j x hx i ?_
  unfold bitAt at hb ⊢
  rw [h x (List.mem_of_getElem? hx)]
  exact hb
end Go.Proofs.YtnakmganodkliaaAm
set_option maxRecDepth 100000
namespace Go.Proofs.YtnakmganodkliaaAm
open Go
def dirI (d : Bool) : Int := if d then 1 else 0
theorem dir_in (d : Bool) : dirI d = 0 ∨ dirI d = 1 := by cases d <;> simp [dirI]
structure IsRun (g : Gr) (x : Int × Bool × List Int) : Prop where
  run : ∃ i, 0 ≤ i ∧ x.2.2 = runOn g (dirI x.2.1) i ∧ beginsB g i (dirI x.2.1) = true
theorem slots_runs {g : Gr} : ∀ (m : Nat) (i num : Int), 0 ≤ i → ∀ x ∈ slotsFrom g m i num, IsRun g x ∧ i ≤ x.2.2.getD 0 0
  | 0, _, _, _, x, h => by simp [slotsFrom] at h
  | m + 1, i, num, i0, x, h => by
    simp only [slotsFrom, List.mem_append] at h
    rcases h with h | h | h
    · split at h
      · rename_i hb; rw [List.mem_singleton.1 h]; exact ⟨⟨i, i0, rfl, hb⟩, Int.le_refl _⟩
      · simp at h
    · split at h
      · rename_i hb; rw [List.mem_singleton.1 h]; exact ⟨⟨i, i0, rfl, hb⟩, Int.le_refl _⟩
      · simp at h
    · obtain ⟨a, b⟩ := slots_runs m (i + 1) _ (by omega) x h
      exact ⟨a, by omega⟩
theorem slots_rise {g : Gr} : ∀ (m : Nat) (i num : Int), 0 ≤ i → (slotsFrom g m i num).Pairwise fun a b => a.2.1 = b.2.1 → a.2.2.getD 0 0 < b.2.2.getD 0 0
  | 0, _, _, _ => by simp [slotsFrom]
  | m + 1, i, num, i0 => by
    have ih := slots_rise (g := g) m (i + 1) (if beginsB g i 0 || beginsB g i 1 then num + 1 else num) (by omega)
    have hr := fun x hx => (slots_runs (g := g) m (i + 1) (if beginsB g i 0 || beginsB g i 1 then num + 1 else num) (by omega) x hx).2
    have h1 : ∀ (n : Int) (d : Bool) (y : Int), ∀ b ∈ slotsFrom g m (i + 1) (if beginsB g i 0 || beginsB g i 1 then num + 1 else num), ((n, d, runOn g y i) : Int × Bool × List Int).2.1 = b.2.1 → ((n, d, runOn g y i) : Int × Bool × List Int).2.2.getD 0 0 < b.2.2.getD 0 0 := by
      intro n d y b hb _
      have := hr b hb
      show i < _
      omega
    simp only [slotsFrom]
    refine List.pairwise_append.2 ⟨?_, List.pairwise_append.2 ⟨?_, ih, ?_⟩, ?_⟩
    · split <;> simp
    · split <;> simp
    · intro a ha b hb
      split at ha
      · rw [List.mem_singleton.1 ha]; exact h1 _ _ _ b hb
      · simp at ha
    · intro a ha b hb
      split at ha
      · rw [List.mem_singleton.1 ha]
        rcases List.mem_append.1 hb with hb | hb
        · split at hb
          · rw [List.mem_singleton.1 hb]
            intro h; cases h
          · simp at hb
        · exact h1 _ _ _ b hb
      · simp at ha
theorem run_at {g : Gr} {y : Int} (hy : y = 0 ∨ y = 1) : ∀ (m : Nat) (i : Int) (k : Nat), k + 1 < (i :: onT g y m i).length → stepF g ((i :: onT g y m i).getD k 0) y = ((i :: onT g y m i).getD (k + 1) 0, true)
  | 0, i, k, h => by simp [onT] at h
  | m + 1, i, k, h => by
    rcases Bool.eq_false_or_eq_true (stepF g i y).2 with hs | hs
    · have e : onT g y (m + 1) i = (stepF g i y).1 :: onT g y m (stepF g i y).1 := by
        show (if _ then _ else _) = _
        rw [if_pos hs]
      rw [e] at h ⊢
      cases k with
      | zero => exact Prod.ext rfl hs
      | succ k =>
        simp only [List.length_cons] at h
        exact run_at hy m (stepF g i y).1 k (by simp only [List.length_cons]; omega)
    · have e : onT g y (m + 1) i = [] := by
        show (if _ then _ else _) = _
        rw [hs]
        rfl
      rw [e] at h
      simp at h
theorem step_inv {g : Gr} {i j y : Int} (hy : y = 0 ∨ y = 1) (h : stepF g i y = (j, true)) : stepF g j (y + 2) = (i, true) := by
  have hf := step_facts (g := g) (i := i) (y := y) (by rw [h])
  have h2 := hf.2.2.2.2.2.2
  rw [h] at h2
  obtain ⟨_, _, oj, hb⟩ := step_back hf.1 h2
  rw [stepF, oj]
  rcases hy with rfl | rfl <;> exact hb
theorem run_unique {g : Gr} {y i i' : Int} (hy : y = 0 ∨ y = 1) (hb : (stepF g i (y + 2)).2 = false) (hb' : (stepF g i' (y + 2)).2 = false) : ∀ (k k' : Nat), k < (runOn g y i).length → k' < (runOn g y i').length → (runOn g y i).getD k 0 = (runOn g y i').getD k' 0 → k = k' ∧ i = i'
  | 0, 0, _, _, e => ⟨rfl, e⟩
  | 0, k' + 1, _, h', e => by
    have := step_inv hy (run_at hy 256 i' k' h')
    have e2 : i = (i' :: onT g y 256 i').getD (k' + 1) 0 := e
    rw [← e2] at this
    rw [this] at hb
    cases hb
  | k + 1, 0, h, _, e => by
    have := step_inv hy (run_at hy 256 i k h)
    have e2 : (i :: onT g y 256 i).getD (k + 1) 0 = i' := e
    rw [e2] at this
    rw [this] at hb'
    cases hb'
  | k + 1, k' + 1, h, h', e => by
    have a := step_inv hy (run_at hy 256 i k h)
    have b := step_inv hy (run_at hy 256 i' k' h')
    have e2 : (i :: onT g y 256 i).getD (k + 1) 0 = (i' :: onT g y 256 i').getD (k' + 1) 0 := e
    rw [e2, b] at a
    have e3 : (i' :: onT g y 256 i').getD k' 0 = (i :: onT g y 256 i).getD k 0 := (Prod.mk.inj a).1
    obtain ⟨p, q⟩ := run_unique hy hb hb' k k' (Nat.lt_of_succ_lt h) (Nat.lt_of_succ_lt h') e3.symm
    exact ⟨by omega, q⟩
def Sits (S : List (Int × Bool × List Int)) (d : Bool) (c : Int) (s k : Nat) : Prop := ∃ x, S[s]? = some x ∧ x.2.1 = d ∧ k < x.2.2.length ∧ x.2.2.getD k 0 = c
theorem sits_unique {g : Gr} {d : Bool} {c : Int} {s k s' k' : Nat} (hc : checkF g = 0) (h : Sits (slotsF g) d c s k) (h' : Sits (slotsF g) d c s' k') : s = s' ∧ k = k' := by
  have e : slotsF g = slotsFrom g (g.h * g.w).toNat 0 0 := if_pos hc
  rw [e] at h h'
  obtain ⟨x, hx, hd, hk, hg⟩ := h
  obtain ⟨x', hx', hd', hk', hg'⟩ := h'
  obtain ⟨⟨i, i0, r, b⟩, _⟩ := slots_runs (g := g) _ 0 0 (by omega) x (List.mem_of_getElem? hx)
  obtain ⟨⟨i', i0', r', b'⟩, _⟩ := slots_runs (g := g) _ 0 0 (by omega) x' (List.mem_of_getElem? hx')
  rw [hd] at r b
  rw [hd'] at r' b'
  unfold beginsB at b b'
  rw [Bool.and_eq_true, Bool.not_eq_true'] at b b'
  rw [r] at hk hg
  rw [r'] at hk' hg'
  obtain ⟨p, q⟩ := run_unique (dir_in d) b.1 b'.1 k k' hk hk' (by rw [hg, hg'])
  refine ⟨?_, p⟩
  have hp := slots_rise (g := g) (g.h * g.w).toNat 0 0 (by omega)
  rw [List.pairwise_iff_getElem] at hp
  obtain ⟨l, e1⟩ := List.getElem?_eq_some_iff.1 hx
  obtain ⟨l', e1'⟩ := List.getElem?_eq_some_iff.1 hx'
  have h0 : x.2.2.getD 0 0 = i := by rw [r]; rfl
  have h0' : x'.2.2.getD 0 0 = i' := by rw [r']; rfl
  rcases Nat.lt_trichotomy s s' with hl | hl | hl
  · have := hp s s' l l' hl (by rw [e1, e1', hd, hd'])
    rw [e1, e1', h0, h0'] at this
    omega
  · exact hl
  · have := hp s' s l' l hl (by rw [e1, e1', hd, hd'])
    rw [e1, e1', h0, h0'] at this
    omega
end Go.Proofs.YtnakmganodkliaaAm
set_option maxRecDepth 100000
namespace Go.Proofs.YtnakmganodkliaaAm
open Go
def sAt (A : List (Int × Int)) (c : Int) : Int × Int := A.getD c.toNat (-1, 0)
theorem sAt_set {A : List (Int × Int)} {x y : Int} {v : Int × Int} (x0 : 0 ≤ x) (y0 : 0 ≤ y) (yl : y < A.length) : sAt (A.set y.toNat v) x = if x = y then v else sAt A x := by
  unfold sAt
  rw [List.getD_eq_getElem?_getD, List.getD_eq_getElem?_getD, List.getElem?_set]
  by_cases h : x = y
  · subst h
    rw [if_pos rfl, if_pos rfl, if_pos (by omega)]
    rfl
  · rw [if_neg (by omega), if_neg h]
theorem lay_no (s c : Int) (c0 : 0 ≤ c) : ∀ (cs : List Int) (k : Int) (A : List (Int × Int)), (∀ x ∈ cs, 0 ≤ x ∧ x < (A.length : Int)) → (∀ x ∈ cs, x ≠ c) → sAt (layCells s k cs A) c = sAt A c
  | [], _, _, _, _ => rfl
  | x :: cs, k, A, hr, hn => by
    have h0 := hr x List.mem_cons_self
    have h1 := hn x List.mem_cons_self
    simp only [layCells]
    rw [lay_no s c c0 cs (k + 1) _ (fun z hz => by rw [List.length_set]; exact hr z (List.mem_cons_of_mem _ hz)) (fun z hz => hn z (List.mem_cons_of_mem _ hz)), sAt_set c0 h0.1 h0.2, if_neg (fun e => h1 e.symm)]
theorem lay_yes (s c : Int) (c0 : 0 ≤ c) : ∀ (cs : List Int) (k : Int) (A : List (Int × Int)) (j : Nat), (∀ x ∈ cs, 0 ≤ x ∧ x < (A.length : Int)) → j < cs.length → cs.getD j 0 = c → (∀ j', j < j' → j' < cs.length → cs.getD j' 0 ≠ c) → sAt (layCells s k cs A) c = (s, k + j)
  | [], _, _, _, _, hj, _, _ => by simp at hj
  | x :: cs, k, A, 0, hr, hj, he, hu => by
    have h0 := hr x List.mem_cons_self
    have e : x = c := he
    simp only [layCells]
    rw [lay_no s c c0 cs (k + 1) _ (fun z hz => by rw [List.length_set]; exact hr z (List.mem_cons_of_mem _ hz)) (fun z hz => ?_), sAt_set c0 h0.1 h0.2, if_pos e.symm]
    · simp
    · obtain ⟨n, hn, rfl⟩ := List.mem_iff_getElem.1 hz
      have := hu (n + 1) (by omega) (by simp only [List.length_cons]; omega)
      rw [List.getD_cons_succ, List.getD_eq_getElem?_getD, List.getElem?_eq_getElem hn] at this
      exact this
  | x :: cs, k, A, j + 1, hr, hj, he, hu => by
    simp only [layCells]
    simp only [List.length_cons] at hj
    rw [lay_yes s c c0 cs (k + 1) _ j (fun z hz => by rw [List.length_set]; exact hr z (List.mem_cons_of_mem _ hz)) (by omega) he (fun j' a b => by
      have := hu (j' + 1) (by omega) (by simp only [List.length_cons]; omega)
      exact this)]
    refine Prod.ext rfl ?_
    show k + 1 + (j : Int) = k + ((j + 1 : Nat) : Int)
    omega
def IsSeat (S : List (Int × Bool × List Int)) (d : Bool) (c : Int) (v : Int × Int) : Prop := (∀ s k : Nat, Sits S d c s k → v = ((s : Int), (k : Int))) ∧ ((∀ s k : Nat, ¬ Sits S d c s k) → v = (-1, 0))
theorem sits_snoc {P : List (Int × Bool × List Int)} {x : Int × Bool × List Int} {d : Bool} {c : Int} {s k : Nat} : Sits (P ++ [x]) d c s k ↔ Sits P d c s k ∨ (s = P.length ∧ x.2.1 = d ∧ k < x.2.2.length ∧ x.2.2.getD k 0 = c) := by
  unfold Sits
  constructor
  · rintro ⟨z, hz, h⟩
    rcases Nat.lt_trichotomy s P.length with hl | hl | hl
    · rw [List.getElem?_append_left hl] at hz
      exact .inl ⟨z, hz, h⟩
    · subst hl
      rw [List.getElem?_append_right (Nat.le_refl _), Nat.sub_self] at hz
      simp only [List.getElem?_cons_zero, Option.some.injEq] at hz
      subst hz
      exact .inr ⟨rfl, h⟩
    · rw [List.getElem?_eq_none (by simp; omega)] at hz
      cases hz
  · rintro (⟨z, hz, h⟩ | ⟨rfl, h⟩)
    · have hl := (List.getElem?_eq_some_iff.1 hz).1
      exact ⟨z, by rw [List.getElem?_append_left hl]; exact hz, h⟩
    · exact ⟨x, by rw [List.getElem?_append_right (Nat.le_refl _), Nat.sub_self]; rfl, h⟩
theorem seat_lay {P : List (Int × Bool × List Int)} {x : Int × Bool × List Int} {d : Bool} {c : Int} {A : List (Int × Int)} (c0 : 0 ≤ c) (hr : ∀ z ∈ x.2.2, 0 ≤ z ∧ z < (A.length : Int)) (hd : x.2.1 = d)
    (hu : ∀ s k s' k', Sits (P ++ [x]) d c s k → Sits (P ++ [x]) d c s' k' → s = s' ∧ k = k') (h : IsSeat P d c (sAt A c)) : IsSeat (P ++ [x]) d c (sAt (layCells P.length 0 x.2.2 A) c) := by
  by_cases hx : ∃ k, k < x.2.2.length ∧ x.2.2.getD k 0 = c
  · obtain ⟨k, hk, hg⟩ := hx
    have hs : Sits (P ++ [x]) d c P.length k := sits_snoc.2 (.inr ⟨rfl, hd, hk, hg⟩)
    have e := lay_yes P.length c c0 x.2.2 0 A k hr hk hg (fun j' a b hj => by
      have := (hu _ _ _ _ hs (sits_snoc.2 (.inr ⟨rfl, hd, b, hj⟩))).2
      omega)
    refine ⟨fun s' k' h' => ?_, fun hn => absurd hs (hn _ _)⟩
    obtain ⟨a, b⟩ := hu _ _ _ _ hs h'
    rw [e, ← a, ← b]
    simp
  · have e := lay_no P.length c c0 x.2.2 0 A hr (fun z hz hzc => by
      obtain ⟨n, hn, rfl⟩ := List.mem_iff_getElem.1 hz
      exact hx ⟨n, hn, by rw [List.getD_eq_getElem?_getD, List.getElem?_eq_getElem hn]; exact hzc⟩)
    rw [e]
    refine ⟨fun s k hs => ?_, fun hn => h.2 fun s k hs => hn s k (sits_snoc.2 (.inl hs))⟩
    rcases sits_snoc.1 hs with hs | ⟨_, _, hk, hg⟩
    · exact h.1 s k hs
    · exact absurd ⟨k, hk, hg⟩ hx
theorem seat_other {P : List (Int × Bool × List Int)} {x : Int × Bool × List Int} {d : Bool} {c : Int} {v : Int × Int} (hd : x.2.1 ≠ d) (h : IsSeat P d c v) : IsSeat (P ++ [x]) d c v := by
  refine ⟨fun s k hs => ?_, fun hn => h.2 fun s k hs => hn s k (sits_snoc.2 (.inl hs))⟩
  rcases sits_snoc.1 hs with hs | ⟨_, hd', _⟩
  · exact h.1 s k hs
  · exact absurd hd' hd
theorem sits_more {P Q : List (Int × Bool × List Int)} {d : Bool} {c : Int} {s k : Nat} (h : Sits P d c s k) : Sits (P ++ Q) d c s k := by
  obtain ⟨z, hz, h⟩ := h
  exact ⟨z, by rw [List.getElem?_append_left (List.getElem?_eq_some_iff.1 hz).1]; exact hz, h⟩
theorem lay_all {c : Int} (c0 : 0 ≤ c) (N : Nat) : ∀ (ss P : List (Int × Bool × List Int)) (A E : List (Int × Int)), A.length = N → E.length = N → (∀ x ∈ ss, ∀ z ∈ x.2.2, 0 ≤ z ∧ z < (N : Int)) →
    (∀ d s k s' k', Sits (P ++ ss) d c s k → Sits (P ++ ss) d c s' k' → s = s' ∧ k = k') → IsSeat P false c (sAt A c) → IsSeat P true c (sAt E c) →
    IsSeat (P ++ ss) false c (sAt (laySlots P.length ss A E).1 c) ∧ IsSeat (P ++ ss) true c (sAt (laySlots P.length ss A E).2 c) ∧ (laySlots P.length ss A E).1.length = N ∧ (laySlots P.length ss A E).2.length = N
  | [], P, A, E, la, le, _, _, h1, h2 => by
    simp only [laySlots, List.append_nil]
    exact ⟨h1, h2, la, le⟩
  | x :: ss, P, A, E, la, le, hr, hu, h1, h2 => by
    have hx := hr x List.mem_cons_self
    have hu1 : ∀ d s k s' k', Sits (P ++ [x]) d c s k → Sits (P ++ [x]) d c s' k' → s = s' ∧ k = k' := fun d s k s' k' a b => hu d s k s' k' (by rw [List.append_cons]; exact sits_more a) (by rw [List.append_cons]; exact sits_more b)
    have el : ((P ++ [x]).length : Int) = P.length + 1 := by simp
    rw [List.append_cons] at hu ⊢
    simp only [laySlots]
    rw [← el]
    split
    · rename_i hd
      exact lay_all c0 N ss (P ++ [x]) A _ la (by rw [lay_len]; exact le) (fun z hz => hr z (List.mem_cons_of_mem _ hz)) hu (seat_other (by rw [hd]; simp) h1) (seat_lay c0 (by rw [le]; exact hx) hd (hu1 true) h2)
    · rename_i hd
      exact lay_all c0 N ss (P ++ [x]) _ E (by rw [lay_len]; exact la) le (fun z hz => hr z (List.mem_cons_of_mem _ hz)) hu (seat_lay c0 (by rw [la]; exact hx) (by simpa using hd) (hu1 false) h1) (seat_other (by simpa using hd) h2)
theorem slots_in {g : Gr} (hc : checkF g = 0) : ∀ x ∈ slotsF g, ∀ z ∈ x.2.2, 0 ≤ z ∧ z < g.h * g.w := by
  intro x hx z hz
  have e : slotsF g = slotsFrom g (g.h * g.w).toNat 0 0 := if_pos hc
  rw [e] at hx
  have := open_in ((slots_open _ _ _ x hx).2 z hz)
  omega
theorem seats_are {g : Gr} (hc : checkF g = 0) {c : Int} (c0 : 0 ≤ c) : IsSeat (slotsF g) false c (sAt (seatsF g).1 c) ∧ IsSeat (slotsF g) true c (sAt (seatsF g).2 c) ∧ ((seatsF g).1.length : Int) = g.h * g.w ∧ ((seatsF g).2.length : Int) = g.h * g.w := by
  have hw := hw_in (chk0.1 hc).1 (chk0.1 hc).2.1
  have e : seatsF g = laySlots 0 (slotsF g) (List.replicate (g.h * g.w).toNat (-1, 0)) (List.replicate (g.h * g.w).toNat (-1, 0)) := if_pos hc
  have hrep : sAt (List.replicate (g.h * g.w).toNat (-1, 0)) c = (-1, 0) := by
    unfold sAt
    rw [List.getD_eq_getElem?_getD, List.getElem?_replicate]
    split <;> rfl
  have none : ∀ d, IsSeat [] d c (sAt (List.replicate (g.h * g.w).toNat (-1, 0)) c) := fun d => ⟨fun s k h => by obtain ⟨x, hx, _⟩ := h; simp at hx, fun _ => hrep⟩
  have h := lay_all c0 (g.h * g.w).toNat (slotsF g) [] _ _ List.length_replicate List.length_replicate (fun x hx z hz => by have := slots_in hc x hx z hz; omega) (fun d s k s' k' a b => sits_unique hc a b) (none false) (none true)
  rw [e]
  simp only [List.nil_append, List.length_nil] at h
  obtain ⟨a, b, p, q⟩ := h
  have p' : (laySlots 0 (slotsF g) (List.replicate (g.h * g.w).toNat (-1, 0)) (List.replicate (g.h * g.w).toNat (-1, 0))).1.length = (g.h * g.w).toNat := p
  have q' : (laySlots 0 (slotsF g) (List.replicate (g.h * g.w).toNat (-1, 0)) (List.replicate (g.h * g.w).toNat (-1, 0))).2.length = (g.h * g.w).toNat := q
  exact ⟨a, b, by omega, by omega⟩
end Go.Proofs.YtnakmganodkliaaAm
set_option maxRecDepth 100000
namespace Go.Proofs.YtnakmganodkliaaAm
open Go
structure Pr where
  g : Gr
  W : List (List Int)
  M : List Nat
def Nt (l : List Int) : List Nat := l.map Int.toNat
theorem Nt_Mi : ∀ (l : List Nat), Nt (Mi l) = l
  | [] => rfl
  | a :: l => by
    show ((a : Int)).toNat :: Nt (Mi l) = _
    rw [Nt_Mi l, Int.toNat_natCast]
theorem Mi_len (l : List Nat) : (Mi l).length = l.length := by simp [Mi]
theorem Mi_getD (l : List Nat) (i : Nat) : (Mi l).getD i 0 = ((l.getD i 0 : Nat) : Int) := by
  unfold Mi
  rw [List.getD_eq_getElem?_getD, List.getD_eq_getElem?_getD, List.getElem?_map]
  cases l[i]? <;> rfl
theorem Mi_set (l : List Nat) (i n : Nat) : (Mi l).set i (n : Int) = Mi (l.set i n) := by
  unfold Mi
  rw [List.map_set]
theorem Mi_rep (n : Nat) : List.replicate n (0 : Int) = Mi (List.replicate n 0) := by simp [Mi]
abbrev WT : Ty := .sl (.int .i64)
abbrev kW : NK := ⟨46, .sl (.int .i64), 0, 3, .int .i64⟩
abbrev slW (W : List (List Int)) : D := .sl false false (.sl (.int .i64)) W
abbrev slU (M : List Nat) : D := .sl false false (.int .u64) (Mi M)
abbrev slS (S : List Slt) : D := .sl false false SlT S
abbrev Pr.d (p : Pr) : D := .agg [.v (.int .i64 p.g.h), .v (.int .i64 p.g.w), .sl false false .bool p.g.B, .sl false false .bool p.g.R, .sl false false .bool p.g.L, slW p.W, slU p.M]
def oddB (c : Int) : Bool := decide (c < 0) || decide (c > 63)
def findI (f : Int → Bool) : Int → List Int → Int
  | _, [] => -1
  | k, x :: xs => if f x then k else findI f (k + 1) xs
def badW (w : List Int) : Bool := decide ((w.length : Int) < 1) || decide ((w.length : Int) > 32) || w.any oddB
def checkP (p : Pr) : Int := if checkF p.g = 0 then if (p.W.length : Int) > 1000 then 111 else if p.W.any badW then 35 else if (p.M.length : Int) = p.g.h * p.g.w then 0 else 120 else checkF p.g
def wordsF (W : List (List Int)) (S : List Slt) (m : List Nat) : List (List Int) := S.map fun s => idxF (fitL m s.2.2) 0 W
def mayF (W : List (List Int)) (S : List Slt) : List (List Int) := S.map fun s => idxF (fun w => w.length == s.2.2.length) 0 W
def okF (S : List Slt) (m : List Nat) (ws : List (List Int)) : Bool := ws.all (fun w => decide ((w.length : Int) > 0)) && S.all fun s => s.2.2.all fun c => m.getD c.toNat 0 != 0
def seatCells (M : List Nat) : List Int → List Nat → List Nat
  | [], m => m
  | c :: cs, m => seatCells M cs (m.set c.toNat (M.getD c.toNat 0))
def seatSlots (M : List Nat) : List Slt → List Nat → List Nat
  | [], m => m
  | s :: ss, m => seatSlots M ss (seatCells M s.2.2 m)
def m0F (p : Pr) : List Nat := seatSlots p.M (slotsF p.g) (List.replicate p.M.length 0)
def narM (p : Pr) : List Nat := if checkP p = 0 then gfpF p.W (slotsF p.g) (m0F p) else []
def narW (p : Pr) : List (List Int) := if checkP p = 0 then wordsF p.W (slotsF p.g) (narM p) else []
def narO (p : Pr) : Bool := if checkP p = 0 then okF (slotsF p.g) (narM p) (narW p) else false
def slotAt (S : List Slt) (s : Int) : Slt := S.getD s.toNat (0, false, [])
def wordAt (W : List (List Int)) (i : Int) : List Int := W.getD i.toNat []
def orW : Nat → List Int → List Nat → List Nat
  | _, [], th => th
  | k, c :: w, th => orW (k + 1) w (th.set k (th.getD k 0 ||| bitN c))
def keepI (W : List (List Int)) (m : List Nat) (cs : List Int) (l : List Int) : List Int := l.filter fun i => fitL m cs (wordAt W i)
def orI (W : List (List Int)) (m : List Nat) (cs : List Int) (th : List Nat) (l : List Int) : List Nat := l.foldl (fun th i => if fitL m cs (wordAt W i) then orW 0 (wordAt W i) th else th) th
def thereI (W : List (List Int)) (m : List Nat) (cs : List Int) (l : List Int) : List Nat := orI W m cs (List.replicate cs.length 0) l
def lookC (W : List (List Int)) (m : List Nat) (cs l : List Int) : List Nat := meetL (fun k => (thereI W m cs l).getD k 0) 0 cs m
def lostL (th : List Nat) : Nat → List Int → List Nat → List Int
  | _, [], _ => []
  | k, c :: cs, m => if m.getD c.toNat 0 &&& th.getD k 0 = m.getD c.toNat 0 then lostL th (k + 1) cs m else c :: lostL th (k + 1) cs (m.set c.toNat (m.getD c.toNat 0 &&& th.getD k 0))
def lostC (W : List (List Int)) (m : List Nat) (cs l : List Int) : List Int := lostL (thereI W m cs l) 0 cs m
def putF (wt : List Bool) (td : List Int) (s : Int) : List Bool × List Int := if 0 ≤ s ∧ wt.getD s.toNat false = false then (wt.set s.toNat true, td ++ [s]) else (wt, td)
theorem getD_in {α : Type} {l : List α} {k : Nat} {d : α} (h : k < l.length) : l.getD k d ∈ l := by
  rw [List.getD_eq_getElem?_getD, List.getElem?_eq_getElem h]
  exact List.getElem_mem h
def datC (rd : Nat → Option Row) (t : Ty) (id : Nat) : Option (List t.El) := match rd id with
  | some (.data _ t' xs) => if h : t' = t then some (h ▸ xs) else none
  | _ => none
def nestC (rd : Nat → Option Row) (k : NK) (id : Nat) : Option (List k.t.El) := match rd id with
  | some (.nest k' xs none) => if h : k' = k then some (h ▸ xs) else none
  | _ => none
def withP (rd : Nat → Option Row) (h w : Int) (b r l ws ms : D) (k : Pr → List Nat → Option Ann) : Option Ann :=
  withW rd h w b r l fun g ls => match slC rd WT [ws], slC rd (.int .u64) [ms] with
    | some W, some M => k ⟨g, W, Nt M⟩ (ls ++ refsDs [ws, ms])
    | _, _ => none
def flag (ts : List Nat) (s : Sp) : Sp := fun f args rd => if ts.contains f then some { f := 0, args := [], val := .top, nk := some kW } else s f args rd
abbrev envD (W : List (List Int)) (S : List Slt) (m : List Nat) : D := .rptr [.rptr [slW W, slS S, slU m, .top]]
def narVal (m : List Nat) (ws : List (List Int)) (ok : Bool) (e : Int) : D := .tup [.agg [.own 0 0 m.length none, .own 1 0 ws.length none, .v (.bool ok)], .v (.int .i64 e)]
def spNa : Sp := fun f args rd => match f, args with
  | 103, [.v (.int _ c)] => some { f := 103, args := [.v (.int .i64 c)], val := .v (.bool (oddB c)) }
  | 128, [l, .fn 103 []] => match slC rd (.int .i64) [l] with
    | some L => some { f := 128, args := [slI L, .fn 103 []], val := .v (.int .i64 (findI oddB 0 L)), lent := refsDs [l] }
    | none => none
  | 104, [l, .fn 103 []] => match slC rd (.int .i64) [l] with
    | some L => some { f := 104, args := [slI L, .fn 103 []], val := .v (.bool (L.any oddB)), lent := refsDs [l] }
    | none => none
  | 62, [.agg [.v (.int _ h), .v (.int _ w), b, r, l, ws, ms]] => withP rd h w b r l ws ms fun p ls => some { f := 62, args := [p.d], val := .v (.int .i64 (checkP p)), lent := ls }
  | 63, [.agg [.v (.int _ h), .v (.int _ w), b, r, l, ws, ms]] => withP rd h w b r l ws ms fun p ls => some { f := 63, args := [p.d], val := .v (.int .i64 (checkP p)), lent := ls }
  | 126, [c, .agg [.v (.int _ n), .v (.bool d), cs], w] => match slC rd (.int .u64) [c], slC rd (.int .i64) [cs], slC rd (.int .i64) [w] with
    | some C, some K, some V => some { f := 126, args := [slU (Nt C), .agg [.v (.int .i64 n), .v (.bool d), slI K], slI V], val := .v (.bool (fitL (Nt C) K V)), lent := refsDs [c, cs, w] }
    | _, _, _ => none
  | 102, [a, b] => match slC rd (.int .u64) [a], slC rd (.int .u64) [b] with
    | some A, some B => some { f := 102, args := [.sl false false (.int .u64) A, .sl false false (.int .u64) B], val := .v (.bool (decide (A = B))), lent := refsDs [a, b] }
    | _, _ => none
  | 65, [.agg [.v (.int _ h), .v (.int _ w), b, r, l]] => withW rd h w b r l fun g ls => some { f := 65, args := [g.d], val := slS (slotsF g), lent := ls }
  | 100, [.agg [.v (.int _ h), .v (.int _ w), b, r, l]] => withW rd h w b r l fun g ls => some { f := 100, args := [g.d], val := slS (slotsF g), lent := ls }
  | 101, [.agg [.v (.int _ h), .v (.int _ w), b, r, l, ws, ms], s, c] => withP rd h w b r l ws ms fun p ls => match slC rd SlT [s], slC rd (.int .u64) [c] with
    | some S, some C => some { f := 101, args := [p.d, slS S, slU (Nt C)], val := .tup [.own 0 0 (onceF p.W S (Nt C)).length none, .own 1 0 (wordsF p.W S (Nt C)).length none], allocs := [.data 80 (.int .u64) (Mi (onceF p.W S (Nt C))), .nest kW (wordsF p.W S (Nt C)) none], lent := ls ++ refsDs [s, c] }
    | _, _ => none
  | 60, [.agg [.v (.int _ h), .v (.int _ w), b, r, l, ws, ms]] => withP rd h w b r l ws ms fun p ls => some { f := 60, args := [p.d], val := narVal (narM p) (narW p) (narO p) (checkP p), allocs := [.data 80 (.int .u64) (Mi (narM p)), .nest kW (narW p) none], lent := ls }
  | 59, [.agg [.v (.int _ h), .v (.int _ w), b, r, l, ws, ms]] => withP rd h w b r l ws ms fun p ls => some { f := 59, args := [p.d], val := narVal (narM p) (narW p) (narO p) (checkP p), allocs := [.data 80 (.int .u64) (Mi (narM p)), .nest kW (narW p) none], lent := ls }
  | 97, [.agg [.v (.int _ h), .v (.int _ w), b, r, l, ws, ms]] => withP rd h w b r l ws ms fun p ls => some { f := 97, args := [p.d], val := .ptr 0 0 0, allocs := [.box 119 [slW p.W, slS (slotsF p.g), .own 1 0 p.M.length (some p.M.length), .own 2 0 (mayF p.W (slotsF p.g)).length none], .data 80 (.int .u64) (Mi (m0F p)), .nest kW (mayF p.W (slotsF p.g)) none], lent := ls }
  | 98, [.v (.int _ s), .ptr a _ _, .ptr c _ _] => match rd a, rd c with
    | some (.box _ [.own i1 _ n _]), some (.box _ [.own i2 _ k _]) => match datC rd .bool i1, datC rd (.int .i64) i2 with
      | some wt, some td => some { f := 98, args := [.v (.int .i64 s), .ptr 0 0 0, .ptr 2 0 0], pre := [.box 32 [.own 1 0 n (some n)], .data 4 .bool wt, .box 46 [.own 3 0 k none], .data 3 (.int .i64) td], val := .tup [], post := [some (.box 32 [.own 1 0 n (some n)]), some (.data 4 .bool (putF wt td s).1), some (.box 46 [.own 4 0 (putF wt td s).2.length none]), none], allocs := [.data 3 (.int .i64) (putF wt td s).2], cap := [a, i1, c, i2] }
      | _, _ => none
    | _, _ => none
  | 99, [.ptr tb _ _, .v (.int _ s)] => match rd tb with
    | some (.box _ [w, l, .own c0 _ n _, .own m0 _ k _]) => match slC rd WT [w], slC rd SlT [l], datC rd (.int .u64) c0, nestC rd kW m0 with
      | some W, some S, some C, some ms => some { f := 99, args := [.ptr 0 0 0, .v (.int .i64 s)], pre := [.box 119 [slW W, slS S, .own 1 0 n (some n), .own 2 0 k none], .data 80 (.int .u64) (Mi (Nt C)), .nest kW ms none], val := .own 3 0 (lostC W (Nt C) (slotAt S s).2.2 (List.getD ms s.toNat [])).length none, post := [some (.box 119 [slW W, slS S, .own 1 0 n (some n), .own 2 0 k none]), some (.data 80 (.int .u64) (Mi (lookC W (Nt C) (slotAt S s).2.2 (List.getD ms s.toNat [])))), some (.nest kW (List.set ms s.toNat (keepI W (Nt C) (slotAt S s).2.2 (List.getD ms s.toNat []))) none)], allocs := [.data 3 (.int .i64) (lostC W (Nt C) (slotAt S s).2.2 (List.getD ms s.toNat []))], cap := [tb, c0, m0] }
      | _, _, _, _ => none
    | _ => none
  | 124, [.v (.int _ i), .rptr [.rptr [w, l, c, _]], .rptr [cs], .ptr b6 _ _] => match slC rd WT [w], slC rd SlT [l], slC rd (.int .u64) [c], slC rd (.int .i64) [cs], rd b6 with
    | some W, some S, some C, some K, some (.box _ [.own t0 _ n _]) => match datC rd (.int .u64) t0 with
      | some th => some { f := 124, args := [.v (.int .i64 i), envD W S (Nt C), .rptr [slI K], .ptr 0 0 0], pre := [.box 66 [.own 1 0 n (some n)], .data 80 (.int .u64) (Mi (Nt th))], val := .v (.bool (!fitL (Nt C) K (wordAt W i))), post := [some (.box 66 [.own 1 0 n (some n)]), some (.data 80 (.int .u64) (Mi (orI W (Nt C) K (Nt th) [i])))], cap := [b6, t0] }
      | none => none
    | _, _, _, _, _ => none
  | 128, [s, .fn 124 [.rptr [.rptr [w, l, c, _]], .rptr [cs], .ptr b6 _ _]] => match slC rd WT [w], slC rd SlT [l], slC rd (.int .u64) [c], slC rd (.int .i64) [cs], rd b6 with
    | some W, some S, some C, some K, some (.box _ [.own t0 _ n _]) => match datC rd (.int .u64) t0, slC rd (.int .i64) [s] with
      | some th, some L => some { f := 128, args := [slI L, .fn 124 [envD W S (Nt C), .rptr [slI K], .ptr 0 0 0]], pre := [.box 66 [.own 1 0 n (some n)], .data 80 (.int .u64) (Mi (Nt th))], val := .v (.int .i64 (findI (fun i => !fitL (Nt C) K (wordAt W i)) 0 L)), post := [some (.box 66 [.own 1 0 n (some n)]), some (.data 80 (.int .u64) (Mi (orI W (Nt C) K (Nt th) (L.takeWhile fun i => fitL (Nt C) K (wordAt W i)))))], cap := [b6, t0], lent := refsDs [s] }
      | _, _ => none
    | _, _, _, _, _ => none
  | 123, [.own r _ n0 _, .fn 124 [.ptr b2 _ _, .ptr b5 _ _, .ptr b6 _ _]] => match rd b2, rd b5, rd b6 with
    | some (.box _ [.ptr tb _ _]), some (.box _ [cs]), some (.box _ [.own t0 _ n _]) => match rd tb with
      | some (.box _ [w, l, .own c0 _ _ _, _]) => match slC rd WT [w], slC rd SlT [l], datC rd (.int .u64) c0, slC rd (.int .i64) [cs], datC rd (.int .u64) t0, datC rd (.int .i64) r with
        | some W, some S, some C, some K, some th, some L => some { f := 123, args := [.own 0 0 n0 none, .fn 124 [envD W S (Nt C), .rptr [slI K], .ptr 1 0 0]], pre := [.data 3 (.int .i64) L, .box 66 [.own 2 0 n (some n)], .data 80 (.int .u64) (Mi (Nt th))], val := .own 0 0 (keepI W (Nt C) K L).length none, post := [some (.data 3 (.int .i64) (keepI W (Nt C) K L ++ List.replicate (L.length - (keepI W (Nt C) K L).length) 0)), some (.box 66 [.own 2 0 n (some n)]), some (.data 80 (.int .u64) (Mi (orI W (Nt C) K (Nt th) L)))], cap := [r, b6, t0], lent := b2 :: tb :: c0 :: b5 :: refsDs [w, l, cs] }
        | _, _, _, _, _, _ => none
      | _ => none
    | _, _, _ => none
  | f, args => spNm f args rd
noncomputable def n103 : Code := (Try.f103.body).getD .skip
noncomputable def n128 : Code := (Try.f128.body).getD .skip
noncomputable def n104 : Code := (Try.f104.body).getD .skip
noncomputable def n62 : Code := (Try.f62.body).getD .skip
noncomputable def n63 : Code := (Try.f63.body).getD .skip
noncomputable def n126 : Code := (Try.f126.body).getD .skip
noncomputable def n102 : Code := (Try.f102.body).getD .skip
noncomputable def n101 : Code := (Try.f101.body).getD .skip
noncomputable def n60 : Code := (Try.f60.body).getD .skip
noncomputable def n59 : Code := (Try.f59.body).getD .skip
noncomputable def n97 : Code := (Try.f97.body).getD .skip
noncomputable def n98 : Code := (Try.f98.body).getD .skip
noncomputable def n99 : Code := (Try.f99.body).getD .skip
noncomputable def n124 : Code := (Try.f124.body).getD .skip
noncomputable def n123 : Code := (Try.f123.body).getD .skip
noncomputable def n61 : Code := (Try.f61.body).getD .skip
noncomputable def n58 : Code := (Try.f58.body).getD .skip
noncomputable def n64 : Code := (Try.f64.body).getD .skip
end Go.Proofs.YtnakmganodkliaaAm
set_option maxRecDepth 100000
namespace Go.Proofs.YtnakmganodkliaaAm
open Go
theorem d103 (c : Int)  : Con Try.prog 103 [] [.v (.int .i64 c)] ((.v (.bool (oddB c)))) [] [] := by
  refine con_vc (how := [none]) (c := n103) (K := (KK n103)) spNa (fun _ => []) (fun _ => []) 400 (.fork .stop .stop) (V := fun G R => (decide (c < (0 : Int)) = true → R (D.v (Value.bool true), [], [])) ∧ (decide (c < (0 : Int)) = false → R (D.v (Value.bool (decide (c > (63 : Int)))), [], []))) hmG Try.func103 (by kernel_rfl) (by kernel_rfl) (fun G R => by kernel_rfl) ?_
  try dsimp only
  unfold oddB
  simp (disch := omega) only [wrG, sameK_iff, true_and, and_true, decide_eq_true_eq, decide_eq_false_iff_not, ne_eq, not_false_eq_true, Bool.false_eq_true, Bool.true_eq_false, false_implies, true_implies, Ty.dflt, reduceCtorEq, beq_iff_eq, bne_iff_ne, beq_eq_false_iff_ne, bne_eq_false_iff_eq, Bool.not_eq_true, Bool.not_eq_eq_eq_not, Bool.not_true, Bool.not_false, gt_iff_lt, ge_iff_le, Int.not_lt, Int.not_le]
  repeat' (first | with_reducible refine And.intro ?_ ?_ | intro _)
  all_goals first | rfl | omega | (simp_all; done) | (simp_all; omega) | skip
def vq13 (L : List Int) (k : Int) (G : Nat → St → Prop) (R : D × List (Option Row) × List Row → Prop) : Prop := let yy0 := (L.getD k.toNat (Ty.int IntKind.i64).dflt); (decide (k < (↑L.length : Int)) = true → (0 : Int) ≤ k ∧ k < (↑L.length : Int) ∧ Con Try.prog 103 [] [D.v (Value.int IntKind.i64 yy0)] (D.v (Value.bool (oddB yy0))) [] [] ∧ Value.int IntKind.i64 yy0 = Value.int IntKind.i64 yy0 ∧ (oddB yy0 = true → R (D.v (Value.int IntKind.i64 k), [], [])) ∧ (oddB yy0 = false → SameK (KK n128 0) (KK n128 0) ∧ G 0 (stOf 19 [0, 1, 7, 8] [D.sl false false (Ty.int IntKind.i64) L, D.fn 103 [], D.v (Value.int IntKind.i64 (↑L.length : Int)), D.v (Value.int IntKind.i64 (IntKind.i64.wrap (k + (1 : Int))))] []))) ∧ (decide (k < (↑L.length : Int)) = false → R (D.v (Value.int IntKind.i64 (-1 : Int)), [], []))
theorem e128 (L : List Int) (hL : (L.length : Int) ≤ 9223372036854775807) (z : Nat) : ∀ (k : Int), 0 ≤ k → k + z = L.length → ∀ r, r = findI oddB k (L.drop k.toNat) → GetsK Try.prog Try.f128.results.toList [none] (KK n128) 0 (.v (.int .i64 r), [], []) 0 (stOf 19 [0,1,7,8] [slI L, .fn 103 [], .v (.int .i64 L.length), .v (.int .i64 k)] []) := by
  induction z with
  | zero =>
    intro k k0 hk r hr
    rw [List.drop_eq_nil_of_le (by omega)] at hr
    have hr : r = -1 := hr
    rw [hr]
    refine gets_vc spNa (fun _ => [0,1,7,8]) (fun _ => []) 400 (.fork (.fork .stop (.hd 0)) .stop) (V := vq13 L k) hmG (fun G R => by kernel_rfl) ?_
    unfold vq13
    try dsimp only
    simp (disch := omega) only [wrG, sameK_iff, true_and, and_true, decide_eq_true_eq, decide_eq_false_iff_not, ne_eq, not_false_eq_true, Bool.false_eq_true, Bool.true_eq_false, false_implies, true_implies, Ty.dflt, reduceCtorEq, beq_iff_eq, bne_iff_ne, beq_eq_false_iff_ne, bne_eq_false_iff_eq, Bool.not_eq_true, Bool.not_eq_eq_eq_not, Bool.not_true, Bool.not_false, gt_iff_lt, ge_iff_le, Int.not_lt, Int.not_le]
    repeat' (first | with_reducible refine And.intro ?_ ?_ | intro _)
    all_goals first | rfl | omega | assumption | trivial | (exfalso; simp_all; done) | (exfalso; omega) | skip
  | succ z ih =>
    intro k k0 hk r hr
    have hd := drop_at (xs := L) (i := k) (0 : Int) k0 (by omega)
    rw [hd] at hr
    simp only [findI] at hr
    have c := d103 (L.getD k.toNat 0)
    have hk1 : IntKind.i64.wrap (k + 1) = k + 1 := wrG (by omega) (by omega)
    have hx := ih (k + 1) (by omega) (by omega)
    refine gets_vc spNa (fun _ => [0,1,7,8]) (fun _ => []) 400 (.fork (.fork .stop (.hd 0)) .stop) (V := vq13 L k) hmG (fun G R => by kernel_rfl) ?_
    unfold vq13
    try dsimp only
    simp only [Ty.dflt, hk1]
    cases ho : oddB (L.getD k.toNat 0) <;> rw [ho] at c hr <;> simp only [if_true, Bool.false_eq_true, if_false] at hr <;> subst hr
    all_goals (first | (have hx := hx _ rfl) | skip)
    all_goals simp (disch := omega) only [wrG, sameK_iff, true_and, and_true, decide_eq_true_eq, decide_eq_false_iff_not, ne_eq, not_false_eq_true, Bool.false_eq_true, Bool.true_eq_false, false_implies, true_implies, Ty.dflt, reduceCtorEq, beq_iff_eq, bne_iff_ne, beq_eq_false_iff_ne, bne_eq_false_iff_eq, Bool.not_eq_true, Bool.not_eq_eq_eq_not, Bool.not_true, Bool.not_false, gt_iff_lt, ge_iff_le, Int.not_lt, Int.not_le]; repeat' (first | with_reducible refine And.intro ?_ ?_ | intro _)
    all_goals first | rfl | omega | assumption | trivial | (exfalso; simp_all; done) | (exfalso; omega) | skip
theorem d128 (L : List Int) (hL : (L.length : Int) ≤ 9223372036854775807) : Con Try.prog 128 [] [slI L, .fn 103 []] ((.v (.int .i64 (findI oddB 0 L)))) [] [] := by
  refine con_vc (how := [none]) (c := n128) (K := (KK n128)) spNa (fun _ => [0,1,7,8]) (fun _ => []) 400 (.hd 0) (V := fun G R => SameK (KK n128 0) (KK n128 0) ∧ G 0 (stOf 19 [0, 1, 7, 8] [D.sl false false (Ty.int IntKind.i64) L, D.fn 103 [], D.v (Value.int IntKind.i64 (↑L.length : Int)), D.v (Value.int IntKind.i64 (0 : Int))] [])) hmG Try.func128 (by kernel_rfl) (by kernel_rfl) (fun G R => by kernel_rfl) ?_
  try dsimp only
  have hx := e128 L hL L.length 0 (by omega) (by omega) _ rfl
  simp only [show (0 : Int).toNat = 0 by rfl, List.drop_zero] at hx
  simp (disch := omega) only [wrG, sameK_iff, true_and, and_true, decide_eq_true_eq, decide_eq_false_iff_not, ne_eq, not_false_eq_true, Bool.false_eq_true, Bool.true_eq_false, false_implies, true_implies, Ty.dflt, reduceCtorEq, beq_iff_eq, bne_iff_ne, beq_eq_false_iff_ne, bne_eq_false_iff_eq, Bool.not_eq_true, Bool.not_eq_eq_eq_not, Bool.not_true, Bool.not_false, gt_iff_lt, ge_iff_le, Int.not_lt, Int.not_le]
  repeat' (first | with_reducible refine And.intro ?_ ?_ | intro _)
  all_goals first | rfl | omega | assumption | trivial | (exfalso; simp_all; done) | (exfalso; omega) | skip
theorem find_any (f : Int → Bool) : ∀ (L : List Int) (k : Int), 0 ≤ k → decide (findI f k L ≥ 0) = L.any f
  | [], k, _ => by simp [findI]
  | x :: L, k, h => by
    simp only [findI, List.any_cons]
    rcases Bool.eq_false_or_eq_true (f x) with e | e
    · simp only [e, if_true, Bool.true_or]
      exact decide_eq_true h
    · simp only [e, Bool.false_eq_true, if_false, Bool.false_or]
      exact find_any f L (k + 1) (by omega)
theorem d104 (L : List Int) (hL : (L.length : Int) ≤ 9223372036854775807) : Con Try.prog 104 [] [slI L, .fn 103 []] ((.v (.bool (L.any oddB)))) [] [] := by
  refine con_vc (how := [none]) (c := n104) (K := (KK n104)) spNa (fun _ => []) (fun _ => []) 400 .stop (V := fun G R => Con Try.prog 128 [] [D.sl false false (Ty.int IntKind.i64) L, D.fn 103 []] (D.v (Value.int IntKind.i64 (findI oddB (0 : Int) L))) [] [] ∧ L = L ∧ R (D.v (Value.bool (decide (findI oddB (0 : Int) L ≥ (0 : Int)))), [], [])) hmG Try.func104 (by kernel_rfl) (by kernel_rfl) (fun G R => by kernel_rfl) ?_
  try dsimp only
  have c := d128 L hL
  have e := find_any oddB L 0 (by omega)
  rw [← e]
  simp (disch := omega) only [wrG, sameK_iff, true_and, and_true, decide_eq_true_eq, decide_eq_false_iff_not, ne_eq, not_false_eq_true, Bool.false_eq_true, Bool.true_eq_false, false_implies, true_implies, Ty.dflt, reduceCtorEq, beq_iff_eq, bne_iff_ne, beq_eq_false_iff_ne, bne_eq_false_iff_eq, Bool.not_eq_true, Bool.not_eq_eq_eq_not, Bool.not_true, Bool.not_false, gt_iff_lt, ge_iff_le, Int.not_lt, Int.not_le]
  repeat' (first | with_reducible refine And.intro ?_ ?_ | intro _)
  all_goals first | rfl | omega | assumption | trivial | (exfalso; simp_all; done) | (exfalso; omega) | skip
theorem size1 {g : Gr} (hc : checkF g = 0) : (g.B.length : Int) = g.h * g.w := (size3 (chk0.1 hc).2.2.1).1
def vq14 (g : Gr) (W : List (List Int)) (M : List Nat) (k : Int) (G : Nat → St → Prop) (R : D × List (Option Row) × List Row → Prop) : Prop := let yy0 := (W.getD k.toNat (Ty.int IntKind.i64).sl.dflt); let yy1 := (↑(List.length yy0) : Int); let yy2 := (Ty.int IntKind.i64); (decide (k < (↑W.length : Int)) = true → (0 : Int) ≤ k ∧ k < (↑W.length : Int) ∧ (decide (yy1 < (1 : Int)) = true → true = true ∧ true = true ∧ R (D.v (Value.int IntKind.i64 (35 : Int)), [], [])) ∧ (decide (yy1 < (1 : Int)) = false → (decide (yy1 > (32 : Int)) = true → true = true ∧ R (D.v (Value.int IntKind.i64 (35 : Int)), [], [])) ∧ (decide (yy1 > (32 : Int)) = false → Con Try.prog 104 [] [D.sl false false yy2 yy0, D.fn 103 []] (D.v (Value.bool (List.any yy0 oddB))) [] [] ∧ W.getD k.toNat yy2.sl.dflt = W.getD k.toNat yy2.sl.dflt ∧ (List.any yy0 oddB = true → R (D.v (Value.int IntKind.i64 (35 : Int)), [], [])) ∧ (List.any yy0 oddB = false → SameK (KK n62 0) (KK n62 0) ∧ G 0 (stOf 46 [1, 18, 19, 20] [D.ptr 0 0 0, D.sl false false yy2.sl W, D.v (Value.int IntKind.i64 (↑W.length : Int)), D.v (Value.int IntKind.i64 (IntKind.i64.wrap (k + (1 : Int))))] [Slot.live (Row.box 68 [D.v (Value.int IntKind.i64 g.h), D.v (Value.int IntKind.i64 g.w), D.sl false false Ty.bool g.B, D.sl false false Ty.bool g.R, D.sl false false Ty.bool g.L, D.sl false false yy2.sl W, D.sl false false (Ty.int IntKind.u64) (Mi M)])]))))) ∧ (decide (k < (↑W.length : Int)) = false → (((↑(Mi M).length : Int) != (↑g.B.length : Int)) = true → R (D.v (Value.int IntKind.i64 (120 : Int)), [], [])) ∧ (((↑(Mi M).length : Int) != (↑g.B.length : Int)) = false → R (D.v (Value.int IntKind.i64 (0 : Int)), [], [])))
theorem e62 (g : Gr) (W : List (List Int)) (M : List Nat) (hc : checkF g = 0) (hW : (W.length : Int) ≤ 1000) (z : Nat) : ∀ (k : Int), 0 ≤ k → k + z = W.length → ∀ r, r = (if (W.drop k.toNat).any badW then 35 else if (M.length : Int) = g.h * g.w then 0 else 120) → GetsK Try.prog Try.f62.results.toList [none] (KK n62) 0 (.v (.int .i64 r), [], []) 0 (stOf 46 [1,18,19,20] [.ptr 0 0 0, slW W, .v (.int .i64 W.length), .v (.int .i64 k)] [.live (.box 68 [.v (.int .i64 g.h), .v (.int .i64 g.w), .sl false false .bool g.B, .sl false false .bool g.R, .sl false false .bool g.L, slW W, slU M])]) := by
  have sz := size1 hc
  induction z with
  | zero =>
    intro k k0 hk r hr
    rw [List.drop_eq_nil_of_le (by omega)] at hr
    simp only [List.any_nil, Bool.false_eq_true, if_false] at hr
    rw [hr, ← sz]
    refine gets_vc spNa (fun _ => [1,18,19,20]) (fun _ => []) 400 (.fork (.fork (.t (.t .stop)) (.fork (.t .stop) (.fork .stop (.hd 0)))) (.fork .stop .stop)) (V := vq14 g W M k) hmG (fun G R => by kernel_rfl) ?_
    unfold vq14
    try dsimp only
    simp only [Mi_len]
    simp (disch := omega) only [wrG, sameK_iff, true_and, and_true, decide_eq_true_eq, decide_eq_false_iff_not, ne_eq, not_false_eq_true, Bool.false_eq_true, Bool.true_eq_false, false_implies, true_implies, Ty.dflt, reduceCtorEq, beq_iff_eq, bne_iff_ne, beq_eq_false_iff_ne, bne_eq_false_iff_eq, Bool.not_eq_true, Bool.not_eq_eq_eq_not, Bool.not_true, Bool.not_false, gt_iff_lt, ge_iff_le, Int.not_lt, Int.not_le]
    repeat' (first | with_reducible refine And.intro ?_ ?_ | intro _)
    all_goals first | rfl | omega | assumption | trivial | (simp_all; done) | (rw [if_neg (by omega)]) | (rw [if_pos (by omega)]) | (exfalso; simp_all; done) | (exfalso; omega) | skip
  | succ z ih =>
    intro k k0 hk r hr
    have hd := drop_at (xs := W) (i := k) ([] : List Int) k0 (by omega)
    rw [hd] at hr
    simp only [List.any_cons] at hr
    have hk1 : IntKind.i64.wrap (k + 1) = k + 1 := wrG (by omega) (by omega)
    have hx := ih (k + 1) (by omega) (by omega) _ rfl
    refine gets_vc spNa (fun _ => [1,18,19,20]) (fun _ => []) 400 (.fork (.fork (.t (.t .stop)) (.fork (.t .stop) (.fork .stop (.hd 0)))) (.fork .stop .stop)) (V := vq14 g W M k) hmG (fun G R => by kernel_rfl) ?_
    unfold vq14
    try dsimp only
    simp only [Ty.dflt, hk1]
    obtain ⟨w, hw⟩ : ∃ w, W.getD k.toNat [] = w := ⟨_, rfl⟩
    simp only [hw] at hr ⊢
    by_cases h1 : (w.length : Int) < 1
    · have : badW w = true := by unfold badW; rw [decide_eq_true h1]; rfl
      rw [this] at hr
      simp only [Bool.true_or, if_true] at hr
      rw [hr]
      simp (disch := omega) only [wrG, sameK_iff, true_and, and_true, decide_eq_true_eq, decide_eq_false_iff_not, ne_eq, not_false_eq_true, Bool.false_eq_true, Bool.true_eq_false, false_implies, true_implies, Ty.dflt, reduceCtorEq, beq_iff_eq, bne_iff_ne, beq_eq_false_iff_ne, bne_eq_false_iff_eq, Bool.not_eq_true, Bool.not_eq_eq_eq_not, Bool.not_true, Bool.not_false, gt_iff_lt, ge_iff_le, Int.not_lt, Int.not_le]
      repeat' (first | with_reducible refine And.intro ?_ ?_ | intro _)
      all_goals first | rfl | omega | assumption | trivial | exact c1 | (exfalso; simp_all; done) | (exfalso; omega) | skip
    · by_cases h2 : (w.length : Int) > 32
      · have : badW w = true := by unfold badW; rw [decide_eq_true h2]; simp
        rw [this] at hr
        simp only [Bool.true_or, if_true] at hr
        rw [hr]
        simp (disch := omega) only [wrG, sameK_iff, true_and, and_true, decide_eq_true_eq, decide_eq_false_iff_not, ne_eq, not_false_eq_true, Bool.false_eq_true, Bool.true_eq_false, false_implies, true_implies, Ty.dflt, reduceCtorEq, beq_iff_eq, bne_iff_ne, beq_eq_false_iff_ne, bne_eq_false_iff_eq, Bool.not_eq_true, Bool.not_eq_eq_eq_not, Bool.not_true, Bool.not_false, gt_iff_lt, ge_iff_le, Int.not_lt, Int.not_le]
        repeat' (first | with_reducible refine And.intro ?_ ?_ | intro _)
        all_goals first | rfl | omega | assumption | trivial | exact c1 | (exfalso; simp_all; done) | (exfalso; omega) | skip
      · have c1 := d104 w (by omega)
        have : badW w = w.any oddB := by unfold badW; rw [decide_eq_false h1, decide_eq_false h2]; rfl
        rw [this] at hr
        cases ho : w.any oddB <;> rw [ho] at c1 hr <;> simp only [Bool.true_or, Bool.false_or, if_true] at hr <;> subst hr
        all_goals simp (disch := omega) only [wrG, sameK_iff, true_and, and_true, decide_eq_true_eq, decide_eq_false_iff_not, ne_eq, not_false_eq_true, Bool.false_eq_true, Bool.true_eq_false, false_implies, true_implies, Ty.dflt, reduceCtorEq, beq_iff_eq, bne_iff_ne, beq_eq_false_iff_ne, bne_eq_false_iff_eq, Bool.not_eq_true, Bool.not_eq_eq_eq_not, Bool.not_true, Bool.not_false, gt_iff_lt, ge_iff_le, Int.not_lt, Int.not_le]; repeat' (first | with_reducible refine And.intro ?_ ?_ | intro _)
        all_goals first | rfl | omega | assumption | trivial | exact c1 | (exfalso; simp_all; done) | (exfalso; omega) | skip
theorem d62 (g : Gr) (W : List (List Int)) (M : List Nat)  : Con Try.prog 62 [] [.agg [.v (.int .i64 g.h), .v (.int .i64 g.w), .sl false false .bool g.B, .sl false false .bool g.R, .sl false false .bool g.L, slW W, slU M]] ((.v (.int .i64 (checkP ⟨g, W, M⟩)))) [] [] := by
  refine con_vc (how := [none]) (c := n62) (K := (KK n62)) spNa (fun _ => [1,18,19,20]) (fun _ => []) 400 (.fork .stop (.fork .stop (.hd 0))) (V := fun G R => Con Try.prog 43 [] [D.agg [D.v (Value.int IntKind.i64 g.h), D.v (Value.int IntKind.i64 g.w), D.sl false false Ty.bool g.B, D.sl false false Ty.bool g.R, D.sl false false Ty.bool g.L]] (D.v (Value.int IntKind.i64 (checkF g))) [] [] ∧ Value.int IntKind.i64 g.h = Value.int IntKind.i64 g.h ∧ Value.int IntKind.i64 g.w = Value.int IntKind.i64 g.w ∧ g.B = g.B ∧ g.R = g.R ∧ g.L = g.L ∧ ((checkF g != (0 : Int)) = true → R (D.v (Value.int IntKind.i64 (checkF g)), [], [])) ∧ ((checkF g != (0 : Int)) = false → (decide ((↑W.length : Int) > (1000 : Int)) = true → R (D.v (Value.int IntKind.i64 (111 : Int)), [], [])) ∧ (decide ((↑W.length : Int) > (1000 : Int)) = false → SameK (KK n62 0) (KK n62 0) ∧ G 0 (stOf 46 [1, 18, 19, 20] [D.ptr 0 0 0, D.sl false false (Ty.int IntKind.i64).sl W, D.v (Value.int IntKind.i64 (↑W.length : Int)), D.v (Value.int IntKind.i64 (0 : Int))] [Slot.live (Row.box 68 [D.v (Value.int IntKind.i64 g.h), D.v (Value.int IntKind.i64 g.w), D.sl false false Ty.bool g.B, D.sl false false Ty.bool g.R, D.sl false false Ty.bool g.L, D.sl false false (Ty.int IntKind.i64).sl W, D.sl false false (Ty.int IntKind.u64) (Mi M)])])))) hmG Try.func62 (by kernel_rfl) (by kernel_rfl) (fun G R => by kernel_rfl) ?_
  try dsimp only
  have cg := d43 g
  unfold checkP
  simp only
  by_cases hc : checkF g = 0
  · rw [if_pos hc]
    by_cases hW : (W.length : Int) > 1000
    · rw [if_pos hW]
      simp (disch := omega) only [wrG, sameK_iff, true_and, and_true, decide_eq_true_eq, decide_eq_false_iff_not, ne_eq, not_false_eq_true, Bool.false_eq_true, Bool.true_eq_false, false_implies, true_implies, Ty.dflt, reduceCtorEq, beq_iff_eq, bne_iff_ne, beq_eq_false_iff_ne, bne_eq_false_iff_eq, Bool.not_eq_true, Bool.not_eq_eq_eq_not, Bool.not_true, Bool.not_false, gt_iff_lt, ge_iff_le, Int.not_lt, Int.not_le]
      repeat' (first | with_reducible refine And.intro ?_ ?_ | intro _)
      all_goals first | rfl | omega | assumption | trivial | exact cg | (exfalso; omega) | skip
    · rw [if_neg hW]
      have hx := e62 g W M hc (by omega) W.length 0 (by omega) (by omega) _ rfl
      simp only [show (0 : Int).toNat = 0 by rfl, List.drop_zero] at hx
      simp (disch := omega) only [wrG, sameK_iff, true_and, and_true, decide_eq_true_eq, decide_eq_false_iff_not, ne_eq, not_false_eq_true, Bool.false_eq_true, Bool.true_eq_false, false_implies, true_implies, Ty.dflt, reduceCtorEq, beq_iff_eq, bne_iff_ne, beq_eq_false_iff_ne, bne_eq_false_iff_eq, Bool.not_eq_true, Bool.not_eq_eq_eq_not, Bool.not_true, Bool.not_false, gt_iff_lt, ge_iff_le, Int.not_lt, Int.not_le]
      repeat' (first | with_reducible refine And.intro ?_ ?_ | intro _)
      all_goals first | rfl | omega | assumption | trivial | exact cg | (exfalso; omega) | skip
  · rw [if_neg hc]
    simp (disch := omega) only [wrG, sameK_iff, true_and, and_true, decide_eq_true_eq, decide_eq_false_iff_not, ne_eq, not_false_eq_true, Bool.false_eq_true, Bool.true_eq_false, false_implies, true_implies, Ty.dflt, reduceCtorEq, beq_iff_eq, bne_iff_ne, beq_eq_false_iff_ne, bne_eq_false_iff_eq, Bool.not_eq_true, Bool.not_eq_eq_eq_not, Bool.not_true, Bool.not_false, gt_iff_lt, ge_iff_le, Int.not_lt, Int.not_le]
    repeat' (first | with_reducible refine And.intro ?_ ?_ | intro _)
    all_goals first | rfl | omega | assumption | trivial | exact cg | (exfalso; omega) | skip
def vq15 (g : Gr) (W : List (List Int)) (M : List Nat) (i : Int) (w : List Int) (k : Int) (G : Nat → St → Prop) (R : D × List (Option Row) × List Row → Prop) : Prop := let yy0 := (Row.box 68 [D.v (Value.int IntKind.i64 g.h), D.v (Value.int IntKind.i64 g.w), D.sl false false Ty.bool g.B, D.sl false false Ty.bool g.R, D.sl false false Ty.bool g.L, D.sl false false (Ty.int IntKind.i64).sl W, D.sl false false (Ty.int IntKind.u64) (Mi M)]); let yy1 := (Ty.int IntKind.i64); (decide (k < (↑w.length : Int)) = true → (0 : Int) ≤ k ∧ k < (↑w.length : Int) ∧ (decide (w.getD k.toNat yy1.dflt < (0 : Int)) = true → true = true ∧ R (D.v (Value.int IntKind.i64 (35 : Int)), [], [])) ∧ (decide (w.getD k.toNat yy1.dflt < (0 : Int)) = false → (0 : Int) ≤ k ∧ k < (↑w.length : Int) ∧ (decide (w.getD k.toNat yy1.dflt > (63 : Int)) = true → R (D.v (Value.int IntKind.i64 (35 : Int)), [], [])) ∧ (decide (w.getD k.toNat yy1.dflt > (63 : Int)) = false → SameK (KK n63 1) (KK n63 1) ∧ G 1 (stOf 66 [1, 4, 5, 6] [D.ptr 0 0 0, D.v (Value.int IntKind.i64 i), D.sl false false yy1 w, D.v (Value.int IntKind.i64 (IntKind.i64.wrap (k + (1 : Int))))] [Slot.live yy0])))) ∧ (decide (k < (↑w.length : Int)) = false → SameK (KK n63 0) (KK n63 0) ∧ G 0 (stOf 66 [1, 4] [D.ptr 0 0 0, D.v (Value.int IntKind.i64 (IntKind.i64.wrap (i + (1 : Int))))] [Slot.live yy0]))
theorem e63i (g : Gr) (W : List (List Int)) (M : List Nat) (i : Int) (i0 : 0 ≤ i) (i1 : i < 1000) (w : List Int) (hw : (w.length : Int) ≤ 32) (R : Int) (hx : GetsK Try.prog Try.f63.results.toList [none] (KK n63) 0 (.v (.int .i64 R), [], []) 0 (stOf 66 [1,4] [.ptr 0 0 0, .v (.int .i64 (i + 1))] [.live (.box 68 [.v (.int .i64 g.h), .v (.int .i64 g.w), .sl false false .bool g.B, .sl false false .bool g.R, .sl false false .bool g.L, slW W, slU M])])) (z : Nat) : ∀ (k : Int), 0 ≤ k → k + z = w.length → ∀ r, r = (if (w.drop k.toNat).any oddB then 35 else R) → GetsK Try.prog Try.f63.results.toList [none] (KK n63) 0 (.v (.int .i64 r), [], []) 1 (stOf 66 [1,4,5,6] [.ptr 0 0 0, .v (.int .i64 i), slI w, .v (.int .i64 k)] [.live (.box 68 [.v (.int .i64 g.h), .v (.int .i64 g.w), .sl false false .bool g.B, .sl false false .bool g.R, .sl false false .bool g.L, slW W, slU M])]) := by
  have hi1 : IntKind.i64.wrap (i + 1) = i + 1 := wrG (by omega) (by omega)
  induction z with
  | zero =>
    intro k k0 hk r hr
    rw [List.drop_eq_nil_of_le (by omega)] at hr
    simp only [List.any_nil, Bool.false_eq_true, if_false] at hr
    subst hr
    refine gets_vc spNa (fun k => [[1,4],[1,4,5,6]].getD k []) (fun _ => []) 400 (.fork (.fork (.t .stop) (.fork .stop (.hd 1))) (.hd 0)) (V := vq15 g W M i w k) hmG (fun G R => by kernel_rfl) ?_
    unfold vq15
    try dsimp only
    rw [hi1]
    simp (disch := omega) only [wrG, sameK_iff, true_and, and_true, decide_eq_true_eq, decide_eq_false_iff_not, ne_eq, not_false_eq_true, Bool.false_eq_true, Bool.true_eq_false, false_implies, true_implies, Ty.dflt, reduceCtorEq, beq_iff_eq, bne_iff_ne, beq_eq_false_iff_ne, bne_eq_false_iff_eq, Bool.not_eq_true, Bool.not_eq_eq_eq_not, Bool.not_true, Bool.not_false, gt_iff_lt, ge_iff_le, Int.not_lt, Int.not_le]
    repeat' (first | with_reducible refine And.intro ?_ ?_ | intro _)
    all_goals first | rfl | omega | assumption | trivial | (exfalso; simp_all; done) | (exfalso; omega) | skip
  | succ z ih =>
    intro k k0 hk r hr
    have hd := drop_at (xs := w) (i := k) (0 : Int) k0 (by omega)
    rw [hd] at hr
    simp only [List.any_cons] at hr
    have hk1 : IntKind.i64.wrap (k + 1) = k + 1 := wrG (by omega) (by omega)
    have hy := ih (k + 1) (by omega) (by omega) _ rfl
    refine gets_vc spNa (fun k => [[1,4],[1,4,5,6]].getD k []) (fun _ => []) 400 (.fork (.fork (.t .stop) (.fork .stop (.hd 1))) (.hd 0)) (V := vq15 g W M i w k) hmG (fun G R => by kernel_rfl) ?_
    unfold vq15
    try dsimp only
    simp only [Ty.dflt, hk1]
    obtain ⟨c, hc⟩ : ∃ c, w.getD k.toNat 0 = c := ⟨_, rfl⟩
    simp only [hc] at hr ⊢
    unfold oddB at hr
    by_cases h1 : c < 0
    · rw [decide_eq_true h1] at hr
      simp only [Bool.true_or, if_true] at hr
      subst hr
      simp (disch := omega) only [wrG, sameK_iff, true_and, and_true, decide_eq_true_eq, decide_eq_false_iff_not, ne_eq, not_false_eq_true, Bool.false_eq_true, Bool.true_eq_false, false_implies, true_implies, Ty.dflt, reduceCtorEq, beq_iff_eq, bne_iff_ne, beq_eq_false_iff_ne, bne_eq_false_iff_eq, Bool.not_eq_true, Bool.not_eq_eq_eq_not, Bool.not_true, Bool.not_false, gt_iff_lt, ge_iff_le, Int.not_lt, Int.not_le]
      repeat' (first | with_reducible refine And.intro ?_ ?_ | intro _)
      all_goals first | rfl | omega | assumption | trivial | (exfalso; simp_all; done) | (exfalso; omega) | skip
    · rw [decide_eq_false h1] at hr
      by_cases h2 : c > 63
      · rw [decide_eq_true h2] at hr
        simp only [Bool.true_or, Bool.or_true, Bool.false_or, if_true] at hr
        subst hr
        simp (disch := omega) only [wrG, sameK_iff, true_and, and_true, decide_eq_true_eq, decide_eq_false_iff_not, ne_eq, not_false_eq_true, Bool.false_eq_true, Bool.true_eq_false, false_implies, true_implies, Ty.dflt, reduceCtorEq, beq_iff_eq, bne_iff_ne, beq_eq_false_iff_ne, bne_eq_false_iff_eq, Bool.not_eq_true, Bool.not_eq_eq_eq_not, Bool.not_true, Bool.not_false, gt_iff_lt, ge_iff_le, Int.not_lt, Int.not_le]
        repeat' (first | with_reducible refine And.intro ?_ ?_ | intro _)
        all_goals first | rfl | omega | assumption | trivial | (exfalso; simp_all; done) | (exfalso; omega) | skip
      · rw [decide_eq_false h2] at hr
        simp only [Bool.false_or] at hr
        subst hr
        simp (disch := omega) only [wrG, sameK_iff, true_and, and_true, decide_eq_true_eq, decide_eq_false_iff_not, ne_eq, not_false_eq_true, Bool.false_eq_true, Bool.true_eq_false, false_implies, true_implies, Ty.dflt, reduceCtorEq, beq_iff_eq, bne_iff_ne, beq_eq_false_iff_ne, bne_eq_false_iff_eq, Bool.not_eq_true, Bool.not_eq_eq_eq_not, Bool.not_true, Bool.not_false, gt_iff_lt, ge_iff_le, Int.not_lt, Int.not_le]
        repeat' (first | with_reducible refine And.intro ?_ ?_ | intro _)
        all_goals first | rfl | omega | assumption | trivial | (exfalso; simp_all; done) | (exfalso; omega) | skip
def vq16 (g : Gr) (W : List (List Int)) (M : List Nat) (k : Int) (G : Nat → St → Prop) (R : D × List (Option Row) × List Row → Prop) : Prop := let yy0 := (↑(List.length (W.getD k.toNat (Ty.int IntKind.i64).sl.dflt)) : Int); (decide (k < (↑W.length : Int)) = true → (0 : Int) ≤ k ∧ k < (↑W.length : Int) ∧ (decide (yy0 < (1 : Int)) = true → true = true ∧ R (D.v (Value.int IntKind.i64 (35 : Int)), [], [])) ∧ (decide (yy0 < (1 : Int)) = false → (decide (yy0 > (32 : Int)) = true → R (D.v (Value.int IntKind.i64 (35 : Int)), [], [])) ∧ (decide (yy0 > (32 : Int)) = false → SameK (KK n63 1) (KK n63 1) ∧ G 1 (stOf 66 [1, 4, 5, 6] [D.ptr 0 0 0, D.v (Value.int IntKind.i64 k), D.sl false false (Ty.int IntKind.i64) (W.getD k.toNat (Ty.int IntKind.i64).sl.dflt), D.v (Value.int IntKind.i64 (0 : Int))] [Slot.live (Row.box 68 [D.v (Value.int IntKind.i64 g.h), D.v (Value.int IntKind.i64 g.w), D.sl false false Ty.bool g.B, D.sl false false Ty.bool g.R, D.sl false false Ty.bool g.L, D.sl false false (Ty.int IntKind.i64).sl W, D.sl false false (Ty.int IntKind.u64) (Mi M)])])))) ∧ (decide (k < (↑W.length : Int)) = false → (((↑(Mi M).length : Int) != IntKind.i64.wrap (g.h * g.w)) = true → R (D.v (Value.int IntKind.i64 (120 : Int)), [], [])) ∧ (((↑(Mi M).length : Int) != IntKind.i64.wrap (g.h * g.w)) = false → R (D.v (Value.int IntKind.i64 (0 : Int)), [], [])))
theorem e63 (g : Gr) (W : List (List Int)) (M : List Nat) (hc : checkF g = 0) (hW : (W.length : Int) ≤ 1000) (z : Nat) : ∀ (k : Int), 0 ≤ k → k + z = W.length → ∀ r, r = (if (W.drop k.toNat).any badW then 35 else if (M.length : Int) = g.h * g.w then 0 else 120) → GetsK Try.prog Try.f63.results.toList [none] (KK n63) 0 (.v (.int .i64 r), [], []) 0 (stOf 66 [1,4] [.ptr 0 0 0, .v (.int .i64 k)] [.live (.box 68 [.v (.int .i64 g.h), .v (.int .i64 g.w), .sl false false .bool g.B, .sl false false .bool g.R, .sl false false .bool g.L, slW W, slU M])]) := by
  have ew := hw_wrap (chk0.1 hc).1 (chk0.1 hc).2.1
  induction z with
  | zero =>
    intro k k0 hk r hr
    rw [List.drop_eq_nil_of_le (by omega)] at hr
    simp only [List.any_nil, Bool.false_eq_true, if_false] at hr
    rw [hr]
    refine gets_vc spNa (fun k => [[1,4],[1,4,5,6]].getD k []) (fun _ => []) 400 (.fork (.fork (.t .stop) (.fork .stop (.hd 1))) (.fork .stop .stop)) (V := vq16 g W M k) hmG (fun G R => by kernel_rfl) ?_
    unfold vq16
    try dsimp only
    simp only [Mi_len, ew]
    simp (disch := omega) only [wrG, sameK_iff, true_and, and_true, decide_eq_true_eq, decide_eq_false_iff_not, ne_eq, not_false_eq_true, Bool.false_eq_true, Bool.true_eq_false, false_implies, true_implies, Ty.dflt, reduceCtorEq, beq_iff_eq, bne_iff_ne, beq_eq_false_iff_ne, bne_eq_false_iff_eq, Bool.not_eq_true, Bool.not_eq_eq_eq_not, Bool.not_true, Bool.not_false, gt_iff_lt, ge_iff_le, Int.not_lt, Int.not_le]
    repeat' (first | with_reducible refine And.intro ?_ ?_ | intro _)
    all_goals first | rfl | omega | assumption | trivial | (simp_all; done) | (rw [if_neg (by omega)]) | (rw [if_pos (by omega)]) | (exfalso; simp_all; done) | (exfalso; omega) | skip
  | succ z ih =>
    intro k k0 hk r hr
    have hd := drop_at (xs := W) (i := k) ([] : List Int) k0 (by omega)
    rw [hd] at hr
    simp only [List.any_cons] at hr
    have hk1 : IntKind.i64.wrap (k + 1) = k + 1 := wrG (by omega) (by omega)
    have hx := ih (k + 1) (by omega) (by omega) _ rfl
    refine gets_vc spNa (fun k => [[1,4],[1,4,5,6]].getD k []) (fun _ => []) 400 (.fork (.fork (.t .stop) (.fork .stop (.hd 1))) (.fork .stop .stop)) (V := vq16 g W M k) hmG (fun G R => by kernel_rfl) ?_
    unfold vq16
    try dsimp only
    simp only [Ty.dflt, hk1]
    obtain ⟨w, hw⟩ : ∃ w, W.getD k.toNat [] = w := ⟨_, rfl⟩
    simp only [hw] at hr ⊢
    by_cases h1 : (w.length : Int) < 1
    · have : badW w = true := by unfold badW; rw [decide_eq_true h1]; rfl
      rw [this] at hr
      simp only [Bool.true_or, if_true] at hr
      rw [hr]
      simp (disch := omega) only [wrG, sameK_iff, true_and, and_true, decide_eq_true_eq, decide_eq_false_iff_not, ne_eq, not_false_eq_true, Bool.false_eq_true, Bool.true_eq_false, false_implies, true_implies, Ty.dflt, reduceCtorEq, beq_iff_eq, bne_iff_ne, beq_eq_false_iff_ne, bne_eq_false_iff_eq, Bool.not_eq_true, Bool.not_eq_eq_eq_not, Bool.not_true, Bool.not_false, gt_iff_lt, ge_iff_le, Int.not_lt, Int.not_le]
      repeat' (first | with_reducible refine And.intro ?_ ?_ | intro _)
      all_goals first | rfl | omega | assumption | trivial | (exfalso; simp_all; done) | (exfalso; omega) | skip
    · by_cases h2 : (w.length : Int) > 32
      · have : badW w = true := by unfold badW; rw [decide_eq_true h2]; simp
        rw [this] at hr
        simp only [Bool.true_or, if_true] at hr
        rw [hr]
        simp (disch := omega) only [wrG, sameK_iff, true_and, and_true, decide_eq_true_eq, decide_eq_false_iff_not, ne_eq, not_false_eq_true, Bool.false_eq_true, Bool.true_eq_false, false_implies, true_implies, Ty.dflt, reduceCtorEq, beq_iff_eq, bne_iff_ne, beq_eq_false_iff_ne, bne_eq_false_iff_eq, Bool.not_eq_true, Bool.not_eq_eq_eq_not, Bool.not_true, Bool.not_false, gt_iff_lt, ge_iff_le, Int.not_lt, Int.not_le]
        repeat' (first | with_reducible refine And.intro ?_ ?_ | intro _)
        all_goals first | rfl | omega | assumption | trivial | (exfalso; simp_all; done) | (exfalso; omega) | skip
      · have : badW w = w.any oddB := by unfold badW; rw [decide_eq_false h1, decide_eq_false h2]; rfl
        rw [this] at hr
        have hy := e63i g W M k k0 (by omega) w (by omega) _ hx w.length 0 (by omega) (by omega) r (by
          rw [hr, show (0 : Int).toNat = 0 by rfl, List.drop_zero]
          cases w.any oddB <;> simp)
        simp (disch := omega) only [wrG, sameK_iff, true_and, and_true, decide_eq_true_eq, decide_eq_false_iff_not, ne_eq, not_false_eq_true, Bool.false_eq_true, Bool.true_eq_false, false_implies, true_implies, Ty.dflt, reduceCtorEq, beq_iff_eq, bne_iff_ne, beq_eq_false_iff_ne, bne_eq_false_iff_eq, Bool.not_eq_true, Bool.not_eq_eq_eq_not, Bool.not_true, Bool.not_false, gt_iff_lt, ge_iff_le, Int.not_lt, Int.not_le]
        repeat' (first | with_reducible refine And.intro ?_ ?_ | intro _)
        all_goals first | rfl | omega | assumption | trivial | (exfalso; simp_all; done) | (exfalso; omega) | skip
theorem d63 (g : Gr) (W : List (List Int)) (M : List Nat)  : Con Try.prog 63 [] [.agg [.v (.int .i64 g.h), .v (.int .i64 g.w), .sl false false .bool g.B, .sl false false .bool g.R, .sl false false .bool g.L, slW W, slU M]] ((.v (.int .i64 (checkP ⟨g, W, M⟩)))) [] [] := by
  refine con_vc (how := [none]) (c := n63) (K := (KK n63)) spNa (fun k => [[1,4],[1,4,5,6]].getD k []) (fun _ => []) 400 (.fork .stop (.fork .stop (.hd 0))) (V := fun G R => Con Try.prog 44 [] [D.agg [D.v (Value.int IntKind.i64 g.h), D.v (Value.int IntKind.i64 g.w), D.sl false false Ty.bool g.B, D.sl false false Ty.bool g.R, D.sl false false Ty.bool g.L]] (D.v (Value.int IntKind.i64 (checkF g))) [] [] ∧ Value.int IntKind.i64 g.h = Value.int IntKind.i64 g.h ∧ Value.int IntKind.i64 g.w = Value.int IntKind.i64 g.w ∧ g.B = g.B ∧ g.R = g.R ∧ g.L = g.L ∧ ((checkF g != (0 : Int)) = true → R (D.v (Value.int IntKind.i64 (checkF g)), [], [])) ∧ ((checkF g != (0 : Int)) = false → (decide ((↑W.length : Int) > (1000 : Int)) = true → R (D.v (Value.int IntKind.i64 (111 : Int)), [], [])) ∧ (decide ((↑W.length : Int) > (1000 : Int)) = false → SameK (KK n63 0) (KK n63 0) ∧ G 0 (stOf 66 [1, 4] [D.ptr 0 0 0, D.v (Value.int IntKind.i64 (0 : Int))] [Slot.live (Row.box 68 [D.v (Value.int IntKind.i64 g.h), D.v (Value.int IntKind.i64 g.w), D.sl false false Ty.bool g.B, D.sl false false Ty.bool g.R, D.sl false false Ty.bool g.L, D.sl false false (Ty.int IntKind.i64).sl W, D.sl false false (Ty.int IntKind.u64) (Mi M)])])))) hmG Try.func63 (by kernel_rfl) (by kernel_rfl) (fun G R => by kernel_rfl) ?_
  try dsimp only
  have cg := d44 g
  unfold checkP
  simp only
  by_cases hc : checkF g = 0
  · rw [if_pos hc]
    by_cases hW : (W.length : Int) > 1000
    · rw [if_pos hW]
      simp (disch := omega) only [wrG, sameK_iff, true_and, and_true, decide_eq_true_eq, decide_eq_false_iff_not, ne_eq, not_false_eq_true, Bool.false_eq_true, Bool.true_eq_false, false_implies, true_implies, Ty.dflt, reduceCtorEq, beq_iff_eq, bne_iff_ne, beq_eq_false_iff_ne, bne_eq_false_iff_eq, Bool.not_eq_true, Bool.not_eq_eq_eq_not, Bool.not_true, Bool.not_false, gt_iff_lt, ge_iff_le, Int.not_lt, Int.not_le]
      repeat' (first | with_reducible refine And.intro ?_ ?_ | intro _)
      all_goals first | rfl | omega | assumption | trivial | exact cg | (exfalso; omega) | skip
    · rw [if_neg hW]
      have hx := e63 g W M hc (by omega) W.length 0 (by omega) (by omega) _ rfl
      simp only [show (0 : Int).toNat = 0 by rfl, List.drop_zero] at hx
      simp (disch := omega) only [wrG, sameK_iff, true_and, and_true, decide_eq_true_eq, decide_eq_false_iff_not, ne_eq, not_false_eq_true, Bool.false_eq_true, Bool.true_eq_false, false_implies, true_implies, Ty.dflt, reduceCtorEq, beq_iff_eq, bne_iff_ne, beq_eq_false_iff_ne, bne_eq_false_iff_eq, Bool.not_eq_true, Bool.not_eq_eq_eq_not, Bool.not_true, Bool.not_false, gt_iff_lt, ge_iff_le, Int.not_lt, Int.not_le]
      repeat' (first | with_reducible refine And.intro ?_ ?_ | intro _)
      all_goals first | rfl | omega | assumption | trivial | exact cg | (exfalso; omega) | skip
  · rw [if_neg hc]
    simp (disch := omega) only [wrG, sameK_iff, true_and, and_true, decide_eq_true_eq, decide_eq_false_iff_not, ne_eq, not_false_eq_true, Bool.false_eq_true, Bool.true_eq_false, false_implies, true_implies, Ty.dflt, reduceCtorEq, beq_iff_eq, bne_iff_ne, beq_eq_false_iff_ne, bne_eq_false_iff_eq, Bool.not_eq_true, Bool.not_eq_eq_eq_not, Bool.not_true, Bool.not_false, gt_iff_lt, ge_iff_le, Int.not_lt, Int.not_le]
    repeat' (first | with_reducible refine And.intro ?_ ?_ | intro _)
    all_goals first | rfl | omega | assumption | trivial | exact cg | (exfalso; omega) | skip
def vq17 (A : List Int) (B : List Int) (k : Int) (G : Nat → St → Prop) (R : D × List (Option Row) × List Row → Prop) : Prop := let yy0 := (Ty.int IntKind.u64); (decide (k < (↑A.length : Int)) = true → (0 : Int) ≤ k ∧ k < (↑A.length : Int) ∧ (0 : Int) ≤ k ∧ k < (↑B.length : Int) ∧ ((A.getD k.toNat yy0.dflt != B.getD k.toNat yy0.dflt) = true → R (D.v (Value.bool false), [], [])) ∧ ((A.getD k.toNat yy0.dflt != B.getD k.toNat yy0.dflt) = false → SameK (KK n102 0) (KK n102 0) ∧ G 0 (stOf 26 [0, 1, 5] [D.sl false false yy0 A, D.sl false false yy0 B, D.v (Value.int IntKind.i64 (IntKind.i64.wrap (k + (1 : Int))))] []))) ∧ (decide (k < (↑A.length : Int)) = false → R (D.v (Value.bool true), [], []))
theorem e102 (A B : List Int) (hl : A.length = B.length) (hA : (A.length : Int) ≤ 9223372036854775807) (z : Nat) : ∀ (k : Int), 0 ≤ k → k + z = A.length → ∀ r, r = decide (A.drop k.toNat = B.drop k.toNat) → GetsK Try.prog Try.f102.results.toList [none] (KK n102) 0 (.v (.bool r), [], []) 0 (stOf 26 [0,1,5] [.sl false false (.int .u64) A, .sl false false (.int .u64) B, .v (.int .i64 k)] []) := by
  induction z with
  | zero =>
    intro k k0 hk r hr
    rw [List.drop_eq_nil_of_le (by omega), List.drop_eq_nil_of_le (by omega)] at hr
    have hr : r = true := by rw [hr]; rfl
    rw [hr]
    refine gets_vc spNa (fun _ => [0,1,5]) (fun _ => []) 400 (.fork (.fork .stop (.hd 0)) .stop) (V := vq17 A B k) hmG (fun G R => by kernel_rfl) ?_
    unfold vq17
    try dsimp only
    simp (disch := omega) only [wrG, sameK_iff, true_and, and_true, decide_eq_true_eq, decide_eq_false_iff_not, ne_eq, not_false_eq_true, Bool.false_eq_true, Bool.true_eq_false, false_implies, true_implies, Ty.dflt, reduceCtorEq, beq_iff_eq, bne_iff_ne, beq_eq_false_iff_ne, bne_eq_false_iff_eq, Bool.not_eq_true, Bool.not_eq_eq_eq_not, Bool.not_true, Bool.not_false, gt_iff_lt, ge_iff_le, Int.not_lt, Int.not_le]
    repeat' (first | with_reducible refine And.intro ?_ ?_ | intro _)
    all_goals first | rfl | omega | assumption | trivial | (exfalso; simp_all; done) | (exfalso; omega) | skip
  | succ z ih =>
    intro k k0 hk r hr
    rw [drop_at (xs := A) (i := k) (0 : Int) k0 (by omega), drop_at (xs := B) (i := k) (0 : Int) k0 (by omega)] at hr
    have hk1 : IntKind.i64.wrap (k + 1) = k + 1 := wrG (by omega) (by omega)
    have hx := ih (k + 1) (by omega) (by omega) _ rfl
    refine gets_vc spNa (fun _ => [0,1,5]) (fun _ => []) 400 (.fork (.fork .stop (.hd 0)) .stop) (V := vq17 A B k) hmG (fun G R => by kernel_rfl) ?_
    unfold vq17
    try dsimp only
    simp only [Ty.dflt, hk1]
    by_cases h : A.getD k.toNat 0 = B.getD k.toNat 0
    · have hr : r = decide (A.drop (k + 1).toNat = B.drop (k + 1).toNat) := by
        rw [hr]
        simp only [List.cons.injEq, h, true_and]
      rw [← hr] at hx
      simp (disch := omega) only [wrG, sameK_iff, true_and, and_true, decide_eq_true_eq, decide_eq_false_iff_not, ne_eq, not_false_eq_true, Bool.false_eq_true, Bool.true_eq_false, false_implies, true_implies, Ty.dflt, reduceCtorEq, beq_iff_eq, bne_iff_ne, beq_eq_false_iff_ne, bne_eq_false_iff_eq, Bool.not_eq_true, Bool.not_eq_eq_eq_not, Bool.not_true, Bool.not_false, gt_iff_lt, ge_iff_le, Int.not_lt, Int.not_le]
      repeat' (first | with_reducible refine And.intro ?_ ?_ | intro _)
      all_goals first | rfl | omega | assumption | trivial | (exfalso; simp_all; done) | (exfalso; omega) | skip
    · have hr : r = false := by
        rw [hr]
        refine decide_eq_false (fun e => h ?_)
        rw [List.cons.injEq] at e
        exact e.1
      rw [hr]
      simp (disch := omega) only [wrG, sameK_iff, true_and, and_true, decide_eq_true_eq, decide_eq_false_iff_not, ne_eq, not_false_eq_true, Bool.false_eq_true, Bool.true_eq_false, false_implies, true_implies, Ty.dflt, reduceCtorEq, beq_iff_eq, bne_iff_ne, beq_eq_false_iff_ne, bne_eq_false_iff_eq, Bool.not_eq_true, Bool.not_eq_eq_eq_not, Bool.not_true, Bool.not_false, gt_iff_lt, ge_iff_le, Int.not_lt, Int.not_le]
      repeat' (first | with_reducible refine And.intro ?_ ?_ | intro _)
      all_goals first | rfl | omega | assumption | trivial | (exfalso; simp_all; done) | (exfalso; omega) | skip
theorem d102 (A B : List Int) (hA : (A.length : Int) ≤ 9223372036854775807) : Con Try.prog 102 [] [.sl false false (.int .u64) A, .sl false false (.int .u64) B] ((.v (.bool (decide (A = B))))) [] [] := by
  refine con_vc (how := [none]) (c := n102) (K := (KK n102)) spNa (fun _ => [0,1,5]) (fun _ => []) 400 (.fork .stop (.hd 0)) (V := fun G R => (((↑A.length : Int) != (↑B.length : Int)) = true → R (D.v (Value.bool false), [], [])) ∧ (((↑A.length : Int) != (↑B.length : Int)) = false → SameK (KK n102 0) (KK n102 0) ∧ G 0 (stOf 26 [0, 1, 5] [D.sl false false (Ty.int IntKind.u64) A, D.sl false false (Ty.int IntKind.u64) B, D.v (Value.int IntKind.i64 (0 : Int))] []))) hmG Try.func102 (by kernel_rfl) (by kernel_rfl) (fun G R => by kernel_rfl) ?_
  try dsimp only
  by_cases hl : A.length = B.length
  · have hx := e102 A B hl hA A.length 0 (by omega) (by omega) _ rfl
    simp only [show (0 : Int).toNat = 0 by rfl, List.drop_zero] at hx
    simp (disch := omega) only [wrG, sameK_iff, true_and, and_true, decide_eq_true_eq, decide_eq_false_iff_not, ne_eq, not_false_eq_true, Bool.false_eq_true, Bool.true_eq_false, false_implies, true_implies, Ty.dflt, reduceCtorEq, beq_iff_eq, bne_iff_ne, beq_eq_false_iff_ne, bne_eq_false_iff_eq, Bool.not_eq_true, Bool.not_eq_eq_eq_not, Bool.not_true, Bool.not_false, gt_iff_lt, ge_iff_le, Int.not_lt, Int.not_le]
    repeat' (first | with_reducible refine And.intro ?_ ?_ | intro _)
    all_goals first | rfl | omega | assumption | trivial | (exfalso; simp_all; done) | (exfalso; omega) | skip
  · rw [decide_eq_false (fun e => hl (by rw [e]))]
    simp (disch := omega) only [wrG, sameK_iff, true_and, and_true, decide_eq_true_eq, decide_eq_false_iff_not, ne_eq, not_false_eq_true, Bool.false_eq_true, Bool.true_eq_false, false_implies, true_implies, Ty.dflt, reduceCtorEq, beq_iff_eq, bne_iff_ne, beq_eq_false_iff_ne, bne_eq_false_iff_eq, Bool.not_eq_true, Bool.not_eq_eq_eq_not, Bool.not_true, Bool.not_false, gt_iff_lt, ge_iff_le, Int.not_lt, Int.not_le]
    repeat' (first | with_reducible refine And.intro ?_ ?_ | intro _)
    all_goals first | rfl | omega | assumption | trivial | (exfalso; simp_all; done) | (exfalso; omega) | skip
def Smalls (m : List Nat) : Prop := ∀ x ∈ m, x < W64
theorem Smalls.at {m : List Nat} (h : Smalls m) (i : Nat) : m.getD i 0 < W64 := by
  rw [List.getD_eq_getElem?_getD]
  cases hi : m[i]? with
  | none => show 0 < W64; decide
  | some x => exact h x (List.mem_of_getElem? hi)
def vq18 (m : List Nat) (n : Int) (d : Bool) (K : List Int) (w : List Int) (k : Int) (G : Nat → St → Prop) (R : D × List (Option Row) × List Row → Prop) : Prop := let yy0 := ((Mi m).getD (Int.toNat (K.getD k.toNat (Ty.int IntKind.i64).dflt)) (Ty.int IntKind.u64).dflt); let yy1 := (w.getD k.toNat (Ty.int IntKind.i64).dflt); (decide (k < (↑w.length : Int)) = true → (0 : Int) ≤ k ∧ k < (↑K.length : Int) ∧ (0 : Int) ≤ K.getD k.toNat (Ty.int IntKind.i64).dflt ∧ K.getD k.toNat (Ty.int IntKind.i64).dflt < (↑(Mi m).length : Int) ∧ (0 : Int) ≤ k ∧ k < (↑w.length : Int) ∧ Con Try.prog 111 [] [D.v (Value.int IntKind.u64 yy0), D.v (Value.int IntKind.i64 yy1)] (D.v (Value.bool (hasN (Int.toNat yy0) yy1))) [] [] ∧ Value.int IntKind.u64 yy0 = Value.int IntKind.u64 yy0 ∧ Value.int IntKind.i64 yy1 = Value.int IntKind.i64 yy1 ∧ ((!hasN (Int.toNat yy0) yy1) = true → R (D.v (Value.bool false), [], [])) ∧ ((!hasN (Int.toNat yy0) yy1) = false → SameK (KK n126 0) (KK n126 0) ∧ G 0 (stOf 34 [0, 2, 4, 7] [D.sl false false (Ty.int IntKind.u64) (Mi m), D.sl false false (Ty.int IntKind.i64) w, D.ptr 0 0 0, D.v (Value.int IntKind.i64 (IntKind.i64.wrap (k + (1 : Int))))] [Slot.live (Row.box 86 [D.v (Value.int IntKind.i64 n), D.v (Value.bool d), D.sl false false (Ty.int IntKind.i64) K])]))) ∧ (decide (k < (↑w.length : Int)) = false → R (D.v (Value.bool true), [], []))
theorem e126 (m : List Nat) (n : Int) (d : Bool) (K w : List Int) (hl : w.length = K.length) (hw : (w.length : Int) ≤ 9223372036854775807) (hm : Smalls m) (hK : ∀ c ∈ K, 0 ≤ c ∧ c < m.length) (z : Nat) : ∀ (k : Int), 0 ≤ k → k + z = w.length → ∀ r, r = ((K.drop k.toNat).zip (w.drop k.toNat)).all (fun q => hasN (m.getD q.1.toNat 0) q.2) → GetsK Try.prog Try.f126.results.toList [none] (KK n126) 0 (.v (.bool r), [], []) 0 (stOf 34 [0,2,4,7] [slU m, slI w, .ptr 0 0 0, .v (.int .i64 k)] [.live (.box 86 [.v (.int .i64 n), .v (.bool d), slI K])]) := by
  induction z with
  | zero =>
    intro k k0 hk r hr
    rw [List.drop_eq_nil_of_le (by omega)] at hr
    have hr : r = true := by rw [hr]; rfl
    rw [hr]
    refine gets_vc spNa (fun _ => [0,2,4,7]) (fun _ => []) 400 (.fork (.fork .stop (.hd 0)) .stop) (V := vq18 m n d K w k) hmG (fun G R => by kernel_rfl) ?_
    unfold vq18
    try dsimp only
    simp (disch := omega) only [wrG, sameK_iff, true_and, and_true, decide_eq_true_eq, decide_eq_false_iff_not, ne_eq, not_false_eq_true, Bool.false_eq_true, Bool.true_eq_false, false_implies, true_implies, Ty.dflt, reduceCtorEq, beq_iff_eq, bne_iff_ne, beq_eq_false_iff_ne, bne_eq_false_iff_eq, Bool.not_eq_true, Bool.not_eq_eq_eq_not, Bool.not_true, Bool.not_false, gt_iff_lt, ge_iff_le, Int.not_lt, Int.not_le]
    repeat' (first | with_reducible refine And.intro ?_ ?_ | intro _)
    all_goals first | rfl | omega | assumption | trivial | (exfalso; simp_all; done) | (exfalso; omega) | skip
  | succ z ih =>
    intro k k0 hk r hr
    rw [drop_at (xs := K) (i := k) (0 : Int) k0 (by omega), drop_at (xs := w) (i := k) (0 : Int) k0 (by omega)] at hr
    simp only [List.zip_cons_cons, List.all_cons] at hr
    have hk1 : IntKind.i64.wrap (k + 1) = k + 1 := wrG (by omega) (by omega)
    have hx := ih (k + 1) (by omega) (by omega) _ rfl
    have hc := hK (K.getD k.toNat 0) (getD_in (by omega))
    have c1 := d111 (m.getD (K.getD k.toNat 0).toNat 0) (w.getD k.toNat 0) (hm.at _)
    refine gets_vc spNa (fun _ => [0,2,4,7]) (fun _ => []) 400 (.fork (.fork .stop (.hd 0)) .stop) (V := vq18 m n d K w k) hmG (fun G R => by kernel_rfl) ?_
    unfold vq18
    try dsimp only
    simp only [Ty.dflt, hk1, Mi_getD, Mi_len, Int.toNat_natCast]
    cases ho : hasN (m.getD (K.getD k.toNat 0).toNat 0) (w.getD k.toNat 0) <;> rw [ho] at c1 hr <;> simp only [Bool.true_and, Bool.false_and] at hr <;> subst hr
    all_goals simp (disch := omega) only [wrG, sameK_iff, true_and, and_true, decide_eq_true_eq, decide_eq_false_iff_not, ne_eq, not_false_eq_true, Bool.false_eq_true, Bool.true_eq_false, false_implies, true_implies, Ty.dflt, reduceCtorEq, beq_iff_eq, bne_iff_ne, beq_eq_false_iff_ne, bne_eq_false_iff_eq, Bool.not_eq_true, Bool.not_eq_eq_eq_not, Bool.not_true, Bool.not_false, gt_iff_lt, ge_iff_le, Int.not_lt, Int.not_le]; repeat' (first | with_reducible refine And.intro ?_ ?_ | intro _)
    all_goals first | rfl | omega | assumption | trivial | (exfalso; simp_all; done) | (exfalso; omega) | skip
theorem d126 (m : List Nat) (n : Int) (d : Bool) (K w : List Int) (hw : (K.length : Int) ≤ 9223372036854775807) (hm : Smalls m) (hK : ∀ c ∈ K, 0 ≤ c ∧ c < m.length) : Con Try.prog 126 [] [slU m, .agg [.v (.int .i64 n), .v (.bool d), slI K], slI w] ((.v (.bool (fitL m K w)))) [] [] := by
  refine con_vc (how := [none]) (c := n126) (K := (KK n126)) spNa (fun _ => [0,2,4,7]) (fun _ => []) 400 (.fork .stop (.hd 0)) (V := fun G R => (((↑w.length : Int) != (↑K.length : Int)) = true → R (D.v (Value.bool false), [], [])) ∧ (((↑w.length : Int) != (↑K.length : Int)) = false → SameK (KK n126 0) (KK n126 0) ∧ G 0 (stOf 34 [0, 2, 4, 7] [D.sl false false (Ty.int IntKind.u64) (Mi m), D.sl false false (Ty.int IntKind.i64) w, D.ptr 0 0 0, D.v (Value.int IntKind.i64 (0 : Int))] [Slot.live (Row.box 86 [D.v (Value.int IntKind.i64 n), D.v (Value.bool d), D.sl false false (Ty.int IntKind.i64) K])]))) hmG Try.func126 (by kernel_rfl) (by kernel_rfl) (fun G R => by kernel_rfl) ?_
  try dsimp only
  by_cases hl : w.length = K.length
  · have hx := e126 m n d K w hl (by omega) hm hK w.length 0 (by omega) (by omega) _ rfl
    simp only [show (0 : Int).toNat = 0 by rfl, List.drop_zero] at hx
    have e : fitL m K w = (K.zip w).all (fun q => hasN (m.getD q.1.toNat 0) q.2) := by
      unfold fitL
      rw [hl, beq_self_eq_true, Bool.true_and]
    rw [e]
    simp (disch := omega) only [wrG, sameK_iff, true_and, and_true, decide_eq_true_eq, decide_eq_false_iff_not, ne_eq, not_false_eq_true, Bool.false_eq_true, Bool.true_eq_false, false_implies, true_implies, Ty.dflt, reduceCtorEq, beq_iff_eq, bne_iff_ne, beq_eq_false_iff_ne, bne_eq_false_iff_eq, Bool.not_eq_true, Bool.not_eq_eq_eq_not, Bool.not_true, Bool.not_false, gt_iff_lt, ge_iff_le, Int.not_lt, Int.not_le]
    repeat' (first | with_reducible refine And.intro ?_ ?_ | intro _)
    all_goals first | rfl | omega | assumption | trivial | (exfalso; simp_all; done) | (exfalso; omega) | skip
  · have e : fitL m K w = false := by
      unfold fitL
      rw [beq_eq_false_iff_ne.2 hl, Bool.false_and]
    rw [e]
    simp (disch := omega) only [wrG, sameK_iff, true_and, and_true, decide_eq_true_eq, decide_eq_false_iff_not, ne_eq, not_false_eq_true, Bool.false_eq_true, Bool.true_eq_false, false_implies, true_implies, Ty.dflt, reduceCtorEq, beq_iff_eq, bne_iff_ne, beq_eq_false_iff_ne, bne_eq_false_iff_eq, Bool.not_eq_true, Bool.not_eq_eq_eq_not, Bool.not_true, Bool.not_false, gt_iff_lt, ge_iff_le, Int.not_lt, Int.not_le]
    repeat' (first | with_reducible refine And.intro ?_ ?_ | intro _)
    all_goals first | rfl | omega | assumption | trivial | (exfalso; simp_all; done) | (exfalso; omega) | skip
end Go.Proofs.YtnakmganodkliaaAm
namespace Go.Proofs.YtnakmganodkliaaAm
open Go
theorem con_frzS {P : Program} {f : FuncId} {args : List D} {n : Nat} {cap : Option Nat} {e : TypeId} {t : Ty} {xs : List t.El} (hn : xs.length = n) (h : Con P f [] args (.own 0 0 n cap) [] [.data e t xs]) : Con P f [] args (.sl false false t xs) [] [] := by
  refine ⟨h.fn, fun w ρ S vs M hargs => (h.run w ρ S vs M hargs).mono ?_⟩
  rintro ex w' ⟨v, ρ', S', h1, h2, h3⟩
  have h0 : hget (List.map slotOf [] ++ List.map Slot.live [.data e t xs]) 0 = some (.data e t xs) := rfl
  have hr : rowData (hget (List.map slotOf [] ++ List.map Slot.live [.data e t xs])) 0 0 n t = some xs := by
    unfold rowData
    rw [h0]
    simp only [dif_pos, List.drop_zero, ← hn, List.take_length]
  obtain ⟨_, A, c', us', e1, k1, k2, k3, k4, k5⟩ := own_seq (S' := softS ⟨ρ', List.map slotOf [] ++ List.map Slot.live [.data e t xs], S', w'⟩ [0]) h2 (fun _ h => .inl h) (fun _ _ h => h) hr (fun l hl' k hk => .inr ⟨0, by simp, by rw [h0]; simp, l, hl', hk⟩) h3
  obtain ⟨M2, _⟩ := mem_kill h2 h0 (softS ⟨ρ', List.map slotOf [] ++ List.map Slot.live [.data e t xs], S', w'⟩ [0]) (fun k hk => .inl hk) (fun k hk => by
    rcases hk with hk | ⟨id, hid, _, l, hl, hb⟩
    · exact .inl hk
    · simp only [List.mem_singleton] at hid
      subst hid
      exact .inr ⟨l, hl, hb⟩)
  have hp := mem_pack M2 (n := 0) rfl (ids := []) (ds := []) rfl
  refine ⟨v, _, _, h1, hp, ?_⟩
  simp only [RelD]
  exact ⟨A, c', us', e1, k1, k2, by simp, by simp, k3, k4⟩
end Go.Proofs.YtnakmganodkliaaAm
set_option maxRecDepth 100000
namespace Go.Proofs.YtnakmganodkliaaAm
open Go
def addT (w : List Int) : Nat → List (List Int) → List (List Int)
  | 0, th => th
  | k + 1, th => (addT w k th).set k ((addT w k th).getD k [] ++ [w.getD k 0])
def colsF (f : List Int → Bool) (n : Nat) (V : List (List Int)) : List (List Int) := (List.range n).map fun j => (V.filter f).map (·.getD j 0)
theorem addT_len (w : List Int) : ∀ (k : Nat) (th : List (List Int)), (addT w k th).length = th.length
  | 0, _ => rfl
  | k + 1, th => by simp only [addT, List.length_set]; exact addT_len w k th
theorem getD_set_gen {α : Type} (d : α) (m : List α) (c : Nat) (v : α) (j : Nat) : (m.set c v).getD j d = if c = j ∧ c < m.length then v else m.getD j d := by
  simp only [List.getD_eq_getElem?_getD, List.getElem?_set]
  by_cases h : c = j
  · subst h
    by_cases h2 : c < m.length <;> simp [h2]
  · simp [h]
theorem addT_get (w : List Int) : ∀ (k : Nat) (th : List (List Int)) (j : Nat), (addT w k th).getD j [] = if j < k ∧ j < th.length then th.getD j [] ++ [w.getD j 0] else th.getD j []
  | 0, th, j => by simp [addT]
  | k + 1, th, j => by
    simp only [addT]
    rw [getD_set_gen, addT_len, addT_get w k th k, addT_get w k th j]
    by_cases h : k = j
    · subst h
      by_cases h2 : k < th.length
      · rw [if_pos ⟨rfl, h2⟩, if_neg (by omega), if_pos ⟨by omega, h2⟩]
      · rw [if_neg (by omega), if_neg (by omega), if_neg (by omega)]
    · rw [if_neg (by omega)]
      by_cases h2 : j < k ∧ j < th.length
      · rw [if_pos h2, if_pos (by omega)]
      · rw [if_neg h2, if_neg (by omega)]
theorem cols_len (f : List Int → Bool) (n : Nat) (V : List (List Int)) : (colsF f n V).length = n := by simp [colsF]
theorem cols_get (f : List Int → Bool) {n j : Nat} (V : List (List Int)) (h : j < n) : (colsF f n V).getD j [] = (V.filter f).map (·.getD j 0) := by
  simp [colsF, List.getD_eq_getElem?_getD, h]
theorem list_ext_getD {α : Type} (d : α) {a b : List α} (hl : a.length = b.length) (h : ∀ j, j < a.length → a.getD j d = b.getD j d) : a = b := by
  apply List.ext_getElem hl
  intro j h1 h2
  have := h j h1
  rw [List.getD_eq_getElem?_getD, List.getD_eq_getElem?_getD, List.getElem?_eq_getElem h1, List.getElem?_eq_getElem h2] at this
  exact this
theorem cols_nil (f : List Int → Bool) (n : Nat) : colsF f n [] = List.replicate n [] := by
  refine list_ext_getD [] (by simp [cols_len]) fun j hj => ?_
  rw [cols_len] at hj
  rw [cols_get f [] hj]
  simp [List.getD_eq_getElem?_getD, hj]
theorem cols_yes {f : List Int → Bool} {n : Nat} {V : List (List Int)} {w : List Int} (hf : f w = true) : addT w n (colsF f n V) = colsF f n (V ++ [w]) := by
  refine list_ext_getD [] (by rw [addT_len, cols_len, cols_len]) fun j hj => ?_
  rw [addT_len, cols_len] at hj
  rw [addT_get, cols_len, if_pos ⟨hj, hj⟩, cols_get f V hj, cols_get f _ hj, List.filter_append, List.map_append]
  simp [List.filter_cons, hf]
theorem cols_no {f : List Int → Bool} {n : Nat} {V : List (List Int)} {w : List Int} (hf : f w = false) : colsF f n (V ++ [w]) = colsF f n V := by
  unfold colsF
  rw [List.filter_append]
  simp [List.filter_cons, hf]
theorem idx_snoc (f : List Int → Bool) : ∀ (V : List (List Int)) (w : List Int) (i : Int), idxF f i (V ++ [w]) = idxF f i V ++ (if f w then [i + V.length] else [])
  | [], w, i => by
    simp only [List.nil_append, idxF, List.length_nil]
    cases f w <;> simp
  | v :: V, w, i => by
    simp only [List.cons_append, idxF]
    rw [idx_snoc f V w (i + 1)]
    have e : i + 1 + (V.length : Int) = i + ((v :: V).length : Int) := by simp; omega
    rw [e]
    cases f v <;> rfl
theorem idx_len (f : List Int → Bool) : ∀ (V : List (List Int)) (i : Int), (idxF f i V).length ≤ V.length
  | [], _ => by simp [idxF]
  | v :: V, i => by
    simp only [idxF]
    have := idx_len f V (i + 1)
    split <;> simp <;> omega
theorem take_succ_at {α : Type} (d : α) (l : List α) {i : Int} (i0 : 0 ≤ i) (h : i < l.length) : l.take (i + 1).toNat = l.take i.toNat ++ [l.getD i.toNat d] := by
  rw [show (i + 1).toNat = i.toNat + 1 by omega, List.take_add_one, List.getD_eq_getElem?_getD, List.getElem?_eq_getElem (by omega)]
  rfl
theorem set_same {α : Type} (d : α) (l : List α) (i : Nat) : l.set i (l.getD i d) = l := by
  rcases Nat.lt_or_ge i l.length with h | h
  · rw [List.getD_eq_getElem?_getD, List.getElem?_eq_getElem h]
    exact List.set_getElem_self h
  · exact List.set_eq_of_length_le h
theorem bytes46 : Try.prog.bytesOf 46 = 24 := by kernel_rfl
theorem bytes80 : Try.prog.bytesOf 80 = 8 := by kernel_rfl
theorem room46 {n : Nat} (h : n ≤ 1000000) : roomy Try.prog 46 n := by
  unfold roomy
  rw [bytes46]
  omega
theorem room80 {n : Nat} (h : n ≤ 1000000) : roomy Try.prog 80 n := by
  unfold roomy
  rw [bytes80]
  omega
end Go.Proofs.YtnakmganodkliaaAm
set_option maxRecDepth 100000
namespace Go.Proofs.YtnakmganodkliaaAm
open Go
structure Fine (W : List (List Int)) (S : List Slt) (m : List Nat) : Prop where
  words : (W.length : Int) ≤ 1000
  long : ∀ w ∈ W, w.length ≤ 32
  slots : S.length ≤ 1000
  cells : ∀ s ∈ S, s.2.2.length ≤ 300 ∧ ∀ c ∈ s.2.2, 0 ≤ c ∧ c < m.length
  size : m.length ≤ 300
  small : Smalls m
theorem meet_smalls {th : Nat → Nat} : ∀ {cs : List Int} {k : Nat} {m : List Nat}, Smalls m → Smalls (meetL th k cs m)
  | [], _, _, h => h
  | c :: cs, k, m, h => by
    simp only [meetL]
    refine meet_smalls (cs := cs) ?_
    intro x hx
    rcases List.mem_or_eq_of_mem_set hx with hx | hx
    · exact h x hx
    · rw [hx]; exact and_lt (h.at _)
def vq19 (g : Gr) (W : List (List Int)) (M : List Nat) (S : List Slt) (m : List Nat) (n : Nat) (f : List Int → Bool) (ws : List (List Int)) (s : Int) (k : Int) (nx : List Nat) (G : Nat → St → Prop) (R : D × List (Option Row) × List Row → Prop) : Prop := let yy0 := ((colsF f n W).getD (0 + k.toNat) (NK.mk 46 (Ty.int IntKind.i64).sl 0 3 (Ty.int IntKind.i64)).t.dflt); let yy1 := (S.getD s.toNat ((Ty.int IntKind.i64).prod (Ty.bool.prod (Ty.int IntKind.i64).sl)).dflt); let yy2 := ((Mi nx).getD (0 + Int.toNat (List.getD yy1.snd.snd k.toNat (Ty.int IntKind.i64).dflt)) (Ty.int IntKind.u64).dflt); let yy3 := (Ty.int IntKind.i64); let yy4 := (↑(ofN (List.take (List.length yy0) (List.drop 0 yy0))) : Int); let yy5 := (Row.box 68 [D.v (Value.int IntKind.i64 g.h), D.v (Value.int IntKind.i64 g.w), D.sl false false Ty.bool g.B, D.sl false false Ty.bool g.R, D.sl false false Ty.bool g.L, D.sl false false yy3.sl W, D.sl false false (Ty.int IntKind.u64) (Mi M)]); let yy6 := (List.getD yy1.snd.snd k.toNat yy3.dflt); (decide (k < (↑n : Int)) = true → (0 : Int) ≤ s ∧ s < (↑S.length : Int) ∧ (0 : Int) ≤ k ∧ k < (↑(List.length yy1.snd.snd) : Int) ∧ (0 : Int) ≤ List.getD yy1.snd.snd k.toNat yy3.dflt ∧ List.getD yy1.snd.snd k.toNat yy3.dflt < (↑nx.length : Int) ∧ 0 + Int.toNat yy6 < (Mi nx).length ∧ (0 : Int) ≤ k ∧ k < (↑n : Int) ∧ 0 + k.toNat < (colsF f n W).length ∧ Con Try.prog 117 [] [D.sl false false yy3 (List.take (List.length yy0) (List.drop 0 yy0))] (D.v (Value.int IntKind.u64 yy4)) [] [] ∧ List.take (List.length yy0) (List.drop 0 yy0) = List.take (List.length yy0) (List.drop 0 yy0) ∧ Con Try.prog 127 [] [D.v (Value.int IntKind.u64 yy2), D.v (Value.int IntKind.u64 yy4)] (D.v (Value.int IntKind.u64 (↑(Int.toNat yy2 &&& yy4.toNat) : Int))) [] [] ∧ Value.int IntKind.u64 yy2 = Value.int IntKind.u64 yy2 ∧ Value.int IntKind.u64 yy4 = Value.int IntKind.u64 yy4 ∧ (0 : Int) ≤ List.getD yy1.snd.snd k.toNat yy3.dflt ∧ List.getD yy1.snd.snd k.toNat yy3.dflt < (↑nx.length : Int) ∧ 0 + Int.toNat yy6 < (Mi nx).length ∧ SameK (KK n101 3) (KK n101 3) ∧ G 3 (stOf 112 [1, 2, 3, 8, 9, 10, 12, 15] [D.sl false false (yy3.prod (Ty.bool.prod yy3.sl)) S, D.sl false false (Ty.int IntKind.u64) (Mi m), D.ptr 0 0 0, D.own 1 0 nx.length none, D.own 2 0 ws.length none, D.v (Value.int IntKind.i64 s), D.own 3 0 n (some n), D.v (Value.int IntKind.i64 (IntKind.i64.wrap (k + (1 : Int))))] [Slot.live yy5, Slot.live (Row.data 80 (Ty.int IntKind.u64) ((Mi nx).set (0 + Int.toNat yy6) (↑(Int.toNat yy2 &&& yy4.toNat) : Int))), Slot.live (Row.nest (NK.mk 46 yy3.sl 0 3 yy3) ws none), Slot.live (Row.nest (NK.mk 46 yy3.sl 0 3 yy3) ((colsF f n W).set (0 + k.toNat) (List.take (List.length yy0) yy0)) none)])) ∧ (decide (k < (↑n : Int)) = false → SameK (KK n101 0) (KK n101 0) ∧ G 0 (stOf 112 [1, 2, 3, 8, 9, 10] [D.sl false false (yy3.prod (Ty.bool.prod yy3.sl)) S, D.sl false false (Ty.int IntKind.u64) (Mi m), D.ptr 0 0 0, D.own 1 0 nx.length none, D.own 2 0 ws.length none, D.v (Value.int IntKind.i64 (IntKind.i64.wrap (s + (1 : Int))))] [Slot.live yy5, Slot.live (Row.data 80 (Ty.int IntKind.u64) (Mi nx)), Slot.live (Row.nest (NK.mk 46 yy3.sl 0 3 yy3) ws none)]))
theorem e101c (g : Gr) (W : List (List Int)) (M : List Nat) (S : List Slt) (m : List Nat) (n : Nat) (f : List Int → Bool) (ws : List (List Int)) (s : Int) (F : Fine W S m) (s0 : 0 ≤ s) (s1 : s < S.length) (cs : List Int) (hcs : (S.getD s.toNat (0, false, [])).2.2 = cs) (hn : cs.length = n) (r1 : List Nat) (r2 : List (List Int)) (e : List Nat) (hx : GetsK Try.prog Try.f101.results.toList [none,none] (KK n101) 0 ((.tup [.own 0 0 r1.length none, .own 1 0 r2.length none]), [], [.data 80 (.int .u64) (Mi r1), .nest kW r2 none]) 0 (stOf 112 [1,2,3,8,9,10] [slS S, slU m, .ptr 0 0 0, .own 1 0 e.length none, .own 2 0 ws.length none, .v (.int .i64 (s + 1))] [.live (.box 68 [.v (.int .i64 g.h), .v (.int .i64 g.w), .sl false false .bool g.B, .sl false false .bool g.R, .sl false false .bool g.L, slW W, slU M]), .live (.data 80 (.int .u64) (Mi e)), .live (.nest kW ws none)])) (z : Nat) : ∀ (k : Int) (nx : List Nat), 0 ≤ k → k + z = n → nx.length = m.length → Smalls nx → meetL (thereF W f) k.toNat (cs.drop k.toNat) nx = e → GetsK Try.prog Try.f101.results.toList [none,none] (KK n101) 0 ((.tup [.own 0 0 r1.length none, .own 1 0 r2.length none]), [], [.data 80 (.int .u64) (Mi r1), .nest kW r2 none]) 3 (stOf 112 [1,2,3,8,9,10,12,15] [slS S, slU m, .ptr 0 0 0, .own 1 0 nx.length none, .own 2 0 ws.length none, .v (.int .i64 s), .own 3 0 n (some n), .v (.int .i64 k)] [.live (.box 68 [.v (.int .i64 g.h), .v (.int .i64 g.w), .sl false false .bool g.B, .sl false false .bool g.R, .sl false false .bool g.L, slW W, slU M]), .live (.data 80 (.int .u64) (Mi nx)), .live (.nest kW ws none), .live (.nest kW (colsF f n W) none)]) := by
  have hs1 : IntKind.i64.wrap (s + 1) = s + 1 := by have := F.slots; exact wrG (by omega) (by omega)
  have hc1 := F.cells _ (getD_in (d := (0, false, [])) (k := s.toNat) (by omega))
  rw [hcs] at hc1
  have hl := cols_len f n W
  have hsl := F.slots
  have hfw := F.words
  induction z with
  | zero =>
    intro k nx k0 hk hnl hsm he
    rw [List.drop_eq_nil_of_le (by omega)] at he
    have he : nx = e := he
    subst he
    refine gets_vc (flag [2000032,2000067,2000081,2000106] spNa) (fun k => [[1,2,3,8,9,10],[1,2,3,8,9,10,11,12,13],[1,2,3,8,9,10,11,12,13,14],[1,2,3,8,9,10,12,15]].getD k []) (fun k => if k = 99 then [⟨4000007, 46, WT⟩] else if k = 0 ∨ k = 3 then [⟨4000009, 46, WT⟩] else [⟨4000009, 46, WT⟩, ⟨11, 3, .int .i64⟩]) 400 (.fork (.hd 3) (.hd 0)) (V := vq19 g W M S m n f ws s k nx) hmG (fun G R => by kernel_rfl) ?_
    unfold vq19
    try dsimp only
    simp only [hs1]
    simp (disch := omega) only [wrG, sameK_iff, true_and, and_true, decide_eq_true_eq, decide_eq_false_iff_not, ne_eq, not_false_eq_true, Bool.false_eq_true, Bool.true_eq_false, false_implies, true_implies, Ty.dflt, reduceCtorEq, beq_iff_eq, bne_iff_ne, beq_eq_false_iff_ne, bne_eq_false_iff_eq, Bool.not_eq_true, Bool.not_eq_eq_eq_not, Bool.not_true, Bool.not_false, gt_iff_lt, ge_iff_le, Int.not_lt, Int.not_le]
    repeat' (first | with_reducible refine And.intro ?_ ?_ | intro _)
    all_goals first | rfl | omega | assumption | trivial | exact room3 (by omega) | exact room46 (by omega) | (exfalso; simp_all; done) | (exfalso; omega) | skip
  | succ z ih =>
    intro k nx k0 hk hnl hsm he
    have hd := drop_at (xs := cs) (i := k) (0 : Int) k0 (by omega)
    rw [hd] at he
    simp only [meetL] at he
    have hk1 : IntKind.i64.wrap (k + 1) = k + 1 := by have := hc1.1; exact wrG (by omega) (by omega)
    have hc2 := hc1.2 _ (getD_in (d := 0) (k := k.toNat) (l := cs) (by omega))
    obtain ⟨c, hcc⟩ : ∃ c, cs.getD k.toNat 0 = c := ⟨_, rfl⟩
    rw [hcc] at he hc2
    have hg := cols_get f (n := n) (j := k.toNat) W (by omega)
    have hlen : (((W.filter f).map (·.getD k.toNat 0)).length : Int) ≤ 9223372036854775807 := by
      rw [List.length_map]
      have := List.length_filter_le f W
      omega
    have c1 := d117 _ hlen
    have c2 := d127 (nx.getD c.toNat 0) (thereF W f k.toNat) (hsm.at _) (of_lt _ _ (by decide))
    have hx2 := ih (k + 1) (nx.set c.toNat (nx.getD c.toNat 0 &&& thereF W f k.toNat)) (by omega) (by omega) (by rw [List.length_set]; exact hnl) (by
      intro y hy
      rcases List.mem_or_eq_of_mem_set hy with hy | hy
      · exact hsm y hy
      · rw [hy]; exact and_lt (hsm.at _)) (by rw [show (k + 1).toNat = k.toNat + 1 by omega] at he ⊢; exact he)
    rw [List.length_set] at hx2
    refine gets_vc (flag [2000032,2000067,2000081,2000106] spNa) (fun k => [[1,2,3,8,9,10],[1,2,3,8,9,10,11,12,13],[1,2,3,8,9,10,11,12,13,14],[1,2,3,8,9,10,12,15]].getD k []) (fun k => if k = 99 then [⟨4000007, 46, WT⟩] else if k = 0 ∨ k = 3 then [⟨4000009, 46, WT⟩] else [⟨4000009, 46, WT⟩, ⟨11, 3, .int .i64⟩]) 400 (.fork (.hd 3) (.hd 0)) (V := vq19 g W M S m n f ws s k nx) hmG (fun G R => by kernel_rfl) ?_
    unfold vq19
    try dsimp only
    simp only [Ty.dflt, hk1, hcs, hcc, take_len, List.drop_zero, List.take_length, Mi_getD, Mi_len, Nt_Mi, Int.toNat_natCast, Mi_set, Nat.zero_add, set_same, List.length_append, List.length_cons, List.length_nil, List.length_set, List.take_zero, List.nil_append, hg, show ofN ((W.filter f).map (·.getD k.toNat 0)) = thereF W f k.toNat from rfl]
    rw [show ∀ v, (colsF f n W).set k.toNat v = (colsF f n W).set k.toNat v from fun _ => rfl]
    have hset : (colsF f n W).set k.toNat ((W.filter f).map (·.getD k.toNat 0)) = colsF f n W := by rw [← hg]; exact set_same [] _ _
    simp only [hset]
    simp (disch := omega) only [wrG, sameK_iff, true_and, and_true, decide_eq_true_eq, decide_eq_false_iff_not, ne_eq, not_false_eq_true, Bool.false_eq_true, Bool.true_eq_false, false_implies, true_implies, Ty.dflt, reduceCtorEq, beq_iff_eq, bne_iff_ne, beq_eq_false_iff_ne, bne_eq_false_iff_eq, Bool.not_eq_true, Bool.not_eq_eq_eq_not, Bool.not_true, Bool.not_false, gt_iff_lt, ge_iff_le, Int.not_lt, Int.not_le]
    repeat' (first | with_reducible refine And.intro ?_ ?_ | intro _)
    all_goals first | rfl | omega | assumption | trivial | exact room3 (by omega) | exact room46 (by omega) | (exfalso; simp_all; done) | (exfalso; omega) | skip
theorem takeSn {α : Type} (l : List α) (x : α) : (l ++ [x]).take (l.length + 1) = l ++ [x] := List.take_of_length_le (by simp)
theorem take_one {α : Type} (x : α) : [x].take 1 = [x] := rfl
def vq20 (g : Gr) (W : List (List Int)) (M : List Nat) (S : List Slt) (m : List Nat) (nx : List Nat) (ws : List (List Int)) (s : Int) (so : List Int) (n : Nat) (th0 : List (List Int)) (i : Int) (w : List Int) (k : Int) (G : Nat → St → Prop) (R : D × List (Option Row) × List Row → Prop) : Prop := let yy0 := (Ty.int IntKind.i64); let yy1 := (Row.box 68 [D.v (Value.int IntKind.i64 g.h), D.v (Value.int IntKind.i64 g.w), D.sl false false Ty.bool g.B, D.sl false false Ty.bool g.R, D.sl false false Ty.bool g.L, D.sl false false yy0.sl W, D.sl false false (Ty.int IntKind.u64) (Mi M)]); let yy2 := ((addT w k.toNat th0).getD (0 + k.toNat) (NK.mk 46 yy0.sl 0 3 yy0).t.dflt); (decide (k < (↑n : Int)) = true → (0 : Int) ≤ k ∧ k < (↑n : Int) ∧ 0 + k.toNat < (addT w k.toNat th0).length ∧ (0 : Int) ≤ i ∧ i < (↑W.length : Int) ∧ (0 : Int) ≤ k ∧ k < (↑(List.length (W.getD i.toNat yy0.sl.dflt)) : Int) ∧ roomy Try.prog 3 (List.length yy2 + 1) ∧ (0 : Int) ≤ k ∧ k < (↑n : Int) ∧ 0 + k.toNat < (addT w k.toNat th0).length ∧ 0 + k.toNat = 0 + k.toNat ∧ SameK (KK n101 2) (KK n101 2) ∧ G 2 (stOf 112 [1, 2, 3, 8, 9, 10, 11, 12, 13, 14] [D.sl false false (yy0.prod (Ty.bool.prod yy0.sl)) S, D.sl false false (Ty.int IntKind.u64) (Mi m), D.ptr 0 0 0, D.own 1 0 nx.length none, D.own 2 0 ws.length none, D.v (Value.int IntKind.i64 s), D.own 3 0 so.length none, D.own 4 0 n (some n), D.v (Value.int IntKind.i64 i), D.v (Value.int IntKind.i64 (IntKind.i64.wrap (k + (1 : Int))))] [Slot.live yy1, Slot.live (Row.data 80 (Ty.int IntKind.u64) (Mi nx)), Slot.live (Row.nest (NK.mk 46 yy0.sl 0 3 yy0) ws none), Slot.live (Row.data 3 yy0 so), Slot.live (Row.nest (NK.mk 46 yy0.sl 0 3 yy0) ((addT w k.toNat th0).set (0 + k.toNat) (List.take (List.length yy2 + 1) (List.take (List.length yy2) (List.drop 0 yy2) ++ List.take 1 (List.drop 0 [List.getD (W.getD i.toNat yy0.sl.dflt) k.toNat yy0.dflt])))) none)])) ∧ (decide (k < (↑n : Int)) = false → SameK (KK n101 1) (KK n101 1) ∧ G 1 (stOf 112 [1, 2, 3, 8, 9, 10, 11, 12, 13] [D.sl false false (yy0.prod (Ty.bool.prod yy0.sl)) S, D.sl false false (Ty.int IntKind.u64) (Mi m), D.ptr 0 0 0, D.own 1 0 nx.length none, D.own 2 0 ws.length none, D.v (Value.int IntKind.i64 s), D.own 3 0 so.length none, D.own 4 0 n (some n), D.v (Value.int IntKind.i64 (IntKind.i64.wrap (i + (1 : Int))))] [Slot.live yy1, Slot.live (Row.data 80 (Ty.int IntKind.u64) (Mi nx)), Slot.live (Row.nest (NK.mk 46 yy0.sl 0 3 yy0) ws none), Slot.live (Row.data 3 yy0 so), Slot.live (Row.nest (NK.mk 46 yy0.sl 0 3 yy0) (addT w k.toNat th0) none)]))
theorem e101k (g : Gr) (W : List (List Int)) (M : List Nat) (S : List Slt) (m : List Nat) (nx : List Nat) (ws : List (List Int)) (s : Int) (F : Fine W S m) (s0 : 0 ≤ s) (s1 : s < S.length) (so : List Int) (n : Nat) (th0 : List (List Int)) (i : Int) (i0 : 0 ≤ i) (i1 : i < W.length) (hth : th0.length = n) (hb : ∀ j, (th0.getD j []).length ≤ 1000) (w : List Int) (hw : W.getD i.toNat [] = w) (hwl : w.length = n) (r1 : List Nat) (r2 : List (List Int)) (hx : GetsK Try.prog Try.f101.results.toList [none,none] (KK n101) 0 ((.tup [.own 0 0 r1.length none, .own 1 0 r2.length none]), [], [.data 80 (.int .u64) (Mi r1), .nest kW r2 none]) 1 (stOf 112 [1,2,3,8,9,10,11,12,13] [slS S, slU m, .ptr 0 0 0, .own 1 0 nx.length none, .own 2 0 ws.length none, .v (.int .i64 s), .own 3 0 so.length none, .own 4 0 n (some n), .v (.int .i64 (i + 1))] [.live (.box 68 [.v (.int .i64 g.h), .v (.int .i64 g.w), .sl false false .bool g.B, .sl false false .bool g.R, .sl false false .bool g.L, slW W, slU M]), .live (.data 80 (.int .u64) (Mi nx)), .live (.nest kW ws none), .live (.data 3 (.int .i64) so), .live (.nest kW (addT w n th0) none)])) (z : Nat) : ∀ (k : Int), 0 ≤ k → k + z = n → GetsK Try.prog Try.f101.results.toList [none,none] (KK n101) 0 ((.tup [.own 0 0 r1.length none, .own 1 0 r2.length none]), [], [.data 80 (.int .u64) (Mi r1), .nest kW r2 none]) 2 (stOf 112 [1,2,3,8,9,10,11,12,13,14] [slS S, slU m, .ptr 0 0 0, .own 1 0 nx.length none, .own 2 0 ws.length none, .v (.int .i64 s), .own 3 0 so.length none, .own 4 0 n (some n), .v (.int .i64 i), .v (.int .i64 k)] [.live (.box 68 [.v (.int .i64 g.h), .v (.int .i64 g.w), .sl false false .bool g.B, .sl false false .bool g.R, .sl false false .bool g.L, slW W, slU M]), .live (.data 80 (.int .u64) (Mi nx)), .live (.nest kW ws none), .live (.data 3 (.int .i64) so), .live (.nest kW (addT w k.toNat th0) none)]) := by
  have hi1 : IntKind.i64.wrap (i + 1) = i + 1 := by have := F.words; exact wrG (by omega) (by omega)
  have hn : n ≤ 32 := by
    rw [← hwl, ← hw]
    exact F.long _ (getD_in (by omega))
  induction z with
  | zero =>
    intro k k0 hk
    have hkn : addT w n th0 = addT w k.toNat th0 := by rw [show k.toNat = n by omega]
    rw [hkn] at hx
    refine gets_vc (flag [2000032,2000067,2000081,2000106] spNa) (fun k => [[1,2,3,8,9,10],[1,2,3,8,9,10,11,12,13],[1,2,3,8,9,10,11,12,13,14],[1,2,3,8,9,10,12,15]].getD k []) (fun k => if k = 99 then [⟨4000007, 46, WT⟩] else if k = 0 ∨ k = 3 then [⟨4000009, 46, WT⟩] else [⟨4000009, 46, WT⟩, ⟨11, 3, .int .i64⟩]) 400 (.fork (.hd 2) (.hd 1)) (V := vq20 g W M S m nx ws s so n th0 i w k) hmG (fun G R => by kernel_rfl) ?_
    unfold vq20
    try dsimp only
    simp only [hi1]
    simp (disch := omega) only [wrG, sameK_iff, true_and, and_true, decide_eq_true_eq, decide_eq_false_iff_not, ne_eq, not_false_eq_true, Bool.false_eq_true, Bool.true_eq_false, false_implies, true_implies, Ty.dflt, reduceCtorEq, beq_iff_eq, bne_iff_ne, beq_eq_false_iff_ne, bne_eq_false_iff_eq, Bool.not_eq_true, Bool.not_eq_eq_eq_not, Bool.not_true, Bool.not_false, gt_iff_lt, ge_iff_le, Int.not_lt, Int.not_le]
    repeat' (first | with_reducible refine And.intro ?_ ?_ | intro _)
    all_goals first | rfl | omega | assumption | trivial | exact room3 (by omega) | exact room46 (by omega) | (exfalso; simp_all; done) | (exfalso; omega) | skip
  | succ z ih =>
    intro k k0 hk
    have hk1 : IntKind.i64.wrap (k + 1) = k + 1 := wrG (by omega) (by omega)
    have hx2 := ih (k + 1) (by omega) (by omega)
    have he : (addT w k.toNat th0).set k.toNat ((addT w k.toNat th0).getD k.toNat [] ++ [w.getD k.toNat 0]) = addT w (k + 1).toNat th0 := by
      rw [show (k + 1).toNat = k.toNat + 1 by omega]
      rfl
    have hr : ((addT w k.toNat th0).getD k.toNat []).length ≤ 1000 := by
      rw [addT_get, if_neg (by omega)]
      exact hb _
    have hl := addT_len w k.toNat th0
    refine gets_vc (flag [2000032,2000067,2000081,2000106] spNa) (fun k => [[1,2,3,8,9,10],[1,2,3,8,9,10,11,12,13],[1,2,3,8,9,10,11,12,13,14],[1,2,3,8,9,10,12,15]].getD k []) (fun k => if k = 99 then [⟨4000007, 46, WT⟩] else if k = 0 ∨ k = 3 then [⟨4000009, 46, WT⟩] else [⟨4000009, 46, WT⟩, ⟨11, 3, .int .i64⟩]) 400 (.fork (.hd 2) (.hd 1)) (V := vq20 g W M S m nx ws s so n th0 i w k) hmG (fun G R => by kernel_rfl) ?_
    unfold vq20
    try dsimp only
    simp only [Ty.dflt, hk1, hw, take_len, List.drop_zero, List.take_length, Mi_getD, Mi_len, Nt_Mi, Int.toNat_natCast, Mi_set, Nat.zero_add, set_same, List.length_append, List.length_cons, List.length_nil, List.length_set, List.take_zero, List.nil_append, takeSn, take_one, he]
    simp (disch := omega) only [wrG, sameK_iff, true_and, and_true, decide_eq_true_eq, decide_eq_false_iff_not, ne_eq, not_false_eq_true, Bool.false_eq_true, Bool.true_eq_false, false_implies, true_implies, Ty.dflt, reduceCtorEq, beq_iff_eq, bne_iff_ne, beq_eq_false_iff_ne, bne_eq_false_iff_eq, Bool.not_eq_true, Bool.not_eq_eq_eq_not, Bool.not_true, Bool.not_false, gt_iff_lt, ge_iff_le, Int.not_lt, Int.not_le]
    repeat' (first | with_reducible refine And.intro ?_ ?_ | intro _)
    all_goals first | rfl | omega | assumption | trivial | exact room3 (by omega) | exact room46 (by omega) | (exfalso; simp_all; done) | (exfalso; omega) | skip
theorem e101w (g : Gr) (W : List (List Int)) (M : List Nat) (S : List Slt) (m : List Nat) (nx : List Nat) (ws : List (List Int)) (s : Int) (F : Fine W S m) (s0 : 0 ≤ s) (s1 : s < S.length) (cs : List Int) (hcs : (S.getD s.toNat (0, false, [])).2.2 = cs) (n : Nat) (hn : cs.length = n) (f : List Int → Bool) (hf : f = fitL m cs) (hws : ws.length ≤ 1000) (r1 : List Nat) (r2 : List (List Int)) (hx : GetsK Try.prog Try.f101.results.toList [none,none] (KK n101) 0 ((.tup [.own 0 0 r1.length none, .own 1 0 r2.length none]), [], [.data 80 (.int .u64) (Mi r1), .nest kW r2 none]) 3 (stOf 112 [1,2,3,8,9,10,12,15] [slS S, slU m, .ptr 0 0 0, .own 1 0 nx.length none, .own 2 0 (ws ++ [idxF f 0 W]).length none, .v (.int .i64 s), .own 3 0 n (some n), .v (.int .i64 0)] [.live (.box 68 [.v (.int .i64 g.h), .v (.int .i64 g.w), .sl false false .bool g.B, .sl false false .bool g.R, .sl false false .bool g.L, slW W, slU M]), .live (.data 80 (.int .u64) (Mi nx)), .live (.nest kW (ws ++ [idxF f 0 W]) none), .live (.nest kW (colsF f n W) none)])) (z : Nat) : ∀ (i : Int), 0 ≤ i → i + z = W.length → GetsK Try.prog Try.f101.results.toList [none,none] (KK n101) 0 ((.tup [.own 0 0 r1.length none, .own 1 0 r2.length none]), [], [.data 80 (.int .u64) (Mi r1), .nest kW r2 none]) 1 (stOf 112 [1,2,3,8,9,10,11,12,13] [slS S, slU m, .ptr 0 0 0, .own 1 0 nx.length none, .own 2 0 ws.length none, .v (.int .i64 s), .own 3 0 (idxF f 0 (W.take i.toNat)).length none, .own 4 0 n (some n), .v (.int .i64 i)] [.live (.box 68 [.v (.int .i64 g.h), .v (.int .i64 g.w), .sl false false .bool g.B, .sl false false .bool g.R, .sl false false .bool g.L, slW W, slU M]), .live (.data 80 (.int .u64) (Mi nx)), .live (.nest kW ws none), .live (.data 3 (.int .i64) (idxF f 0 (W.take i.toNat))), .live (.nest kW (colsF f n (W.take i.toNat)) none)]) := by
  have hc1 := F.cells _ (getD_in (d := (0, false, [])) (k := s.toNat) (by omega))
  rw [hcs] at hc1
  have hfw := F.words
  induction z with
  | zero =>
    intro i i0 hi
    rw [List.take_of_length_le (by omega)]
    rw [List.length_append, List.length_cons, List.length_nil] at hx
    refine gets_vc (flag [2000032,2000067,2000081,2000106] spNa) (fun k => [[1,2,3,8,9,10],[1,2,3,8,9,10,11,12,13],[1,2,3,8,9,10,11,12,13,14],[1,2,3,8,9,10,12,15]].getD k []) (fun k => if k = 99 then [⟨4000007, 46, WT⟩] else if k = 0 ∨ k = 3 then [⟨4000009, 46, WT⟩] else [⟨4000009, 46, WT⟩, ⟨11, 3, .int .i64⟩]) 400 (.fork (.fork (.hd 1) (.hd 2)) (.hd 3)) (V := fun G R => let yy0 := (S.getD s.toNat ((Ty.int IntKind.i64).prod (Ty.bool.prod (Ty.int IntKind.i64).sl)).dflt); let yy1 := (Row.box 68 [D.v (Value.int IntKind.i64 g.h), D.v (Value.int IntKind.i64 g.w), D.sl false false Ty.bool g.B, D.sl false false Ty.bool g.R, D.sl false false Ty.bool g.L, D.sl false false (Ty.int IntKind.i64).sl W, D.sl false false (Ty.int IntKind.u64) (Mi M)]); let yy2 := (Ty.int IntKind.i64); let yy3 := (idxF f (0 : Int) W); let yy4 := (NK.mk 46 yy2.sl 0 3 yy2); let yy5 := (Ty.int IntKind.u64); let yy6 := (W.getD i.toNat yy2.sl.dflt); (decide (i < (↑W.length : Int)) = true → (0 : Int) ≤ s ∧ s < (↑S.length : Int) ∧ (0 : Int) ≤ i ∧ i < (↑W.length : Int) ∧ Con Try.prog 126 [] [D.sl false false yy5 (Mi (Nt (Mi m))), D.agg [D.v (Value.int IntKind.i64 yy0.fst), D.v (Value.bool yy0.snd.fst), D.sl false false yy2 yy0.snd.snd], D.sl false false yy2 yy6] (D.v (Value.bool (fitL (Nt (Mi m)) yy0.snd.snd yy6))) [] [] ∧ Mi m = Mi (Nt (Mi m)) ∧ Value.int IntKind.i64 yy0.fst = Value.int IntKind.i64 yy0.fst ∧ Value.bool yy0.snd.fst = Value.bool yy0.snd.fst ∧ yy0.snd.snd = yy0.snd.snd ∧ W.getD i.toNat yy2.sl.dflt = W.getD i.toNat yy2.sl.dflt ∧ ((!fitL (Nt (Mi m)) yy0.snd.snd yy6) = true → SameK (KK n101 1) (KK n101 1) ∧ G 1 (stOf 112 [1, 2, 3, 8, 9, 10, 11, 12, 13] [D.sl false false (yy2.prod (Ty.bool.prod yy2.sl)) S, D.sl false false yy5 (Mi m), D.ptr 0 0 0, D.own 1 0 nx.length none, D.own 2 0 ws.length none, D.v (Value.int IntKind.i64 s), D.own 3 0 yy3.length none, D.own 4 0 n (some n), D.v (Value.int IntKind.i64 (IntKind.i64.wrap (i + (1 : Int))))] [Slot.live yy1, Slot.live (Row.data 80 yy5 (Mi nx)), Slot.live (Row.nest yy4 ws none), Slot.live (Row.data 3 yy2 yy3), Slot.live (Row.nest yy4 (colsF f n W) none)])) ∧ ((!fitL (Nt (Mi m)) yy0.snd.snd yy6) = false → roomy Try.prog 3 (yy3.length + 1) ∧ SameK (KK n101 2) (KK n101 2) ∧ G 2 (stOf 112 [1, 2, 3, 8, 9, 10, 11, 12, 13, 14] [D.sl false false (yy2.prod (Ty.bool.prod yy2.sl)) S, D.sl false false yy5 (Mi m), D.ptr 0 0 0, D.own 1 0 nx.length none, D.own 2 0 ws.length none, D.v (Value.int IntKind.i64 s), D.own 3 0 (yy3.length + 1) none, D.own 4 0 n (some n), D.v (Value.int IntKind.i64 i), D.v (Value.int IntKind.i64 (0 : Int))] [Slot.live yy1, Slot.live (Row.data 80 yy5 (Mi nx)), Slot.live (Row.nest yy4 ws none), Slot.live (Row.data 3 yy2 (List.take yy3.length (List.drop 0 yy3) ++ List.take 1 (List.drop 0 [i]))), Slot.live (Row.nest yy4 (colsF f n W) none)]))) ∧ (decide (i < (↑W.length : Int)) = false → 1 = 1 ∧ roomy Try.prog 46 (ws.length + 1) ∧ SameK (KK n101 3) (KK n101 3) ∧ G 3 (stOf 112 [1, 2, 3, 8, 9, 10, 12, 15] [D.sl false false (yy2.prod (Ty.bool.prod yy2.sl)) S, D.sl false false yy5 (Mi m), D.ptr 0 0 0, D.own 1 0 nx.length none, D.own 2 0 (ws.length + 1) none, D.v (Value.int IntKind.i64 s), D.own 3 0 n (some n), D.v (Value.int IntKind.i64 (0 : Int))] [Slot.live yy1, Slot.live (Row.data 80 yy5 (Mi nx)), Slot.live (Row.nest yy4 (List.take ws.length ws ++ [List.take yy3.length (List.drop 0 yy3)]) none), Slot.live (Row.nest yy4 (colsF f n W) none)]))) hmG (fun G R => by kernel_rfl) ?_
    try dsimp only
    simp only [take_len, List.drop_zero, List.take_length, Mi_getD, Mi_len, Nt_Mi, Int.toNat_natCast, Mi_set, Nat.zero_add, set_same, List.length_append, List.length_cons, List.length_nil, List.length_set, List.take_zero, List.nil_append]
    simp (disch := omega) only [wrG, sameK_iff, true_and, and_true, decide_eq_true_eq, decide_eq_false_iff_not, ne_eq, not_false_eq_true, Bool.false_eq_true, Bool.true_eq_false, false_implies, true_implies, Ty.dflt, reduceCtorEq, beq_iff_eq, bne_iff_ne, beq_eq_false_iff_ne, bne_eq_false_iff_eq, Bool.not_eq_true, Bool.not_eq_eq_eq_not, Bool.not_true, Bool.not_false, gt_iff_lt, ge_iff_le, Int.not_lt, Int.not_le]
    repeat' (first | with_reducible refine And.intro ?_ ?_ | intro _)
    all_goals first | rfl | omega | assumption | trivial | exact room3 (by omega) | exact room46 (by omega) | (exfalso; simp_all; done) | (exfalso; omega) | skip
  | succ z ih =>
    intro i i0 hi
    have hi1 : IntKind.i64.wrap (i + 1) = i + 1 := wrG (by omega) (by omega)
    have ht := take_succ_at ([] : List Int) W i0 (by omega)
    obtain ⟨w, hw⟩ : ∃ w, W.getD i.toNat [] = w := ⟨_, rfl⟩
    have hwl : w.length ≤ 32 := by rw [← hw]; exact F.long _ (getD_in (by omega))
    rw [hw] at ht
    have htl : (W.take i.toNat).length = i.toNat := by rw [List.length_take]; omega
    have hil : (idxF f 0 (W.take i.toNat)).length ≤ i.toNat := Nat.le_trans (idx_len f _ 0) (Nat.le_of_eq htl)
    have hx2 := ih (i + 1) (by omega) (by omega)
    rw [ht, idx_snoc, htl, show (0 : Int) + (i.toNat : Int) = i by omega] at hx2
    have c1 := d126 m (S.getD s.toNat (0, false, [])).1 (S.getD s.toNat (0, false, [])).2.1 cs w (by omega) F.small hc1.2
    obtain ⟨V, hV⟩ : ∃ V, W.take i.toNat = V := ⟨_, rfl⟩
    rw [hV] at hx2 hil htl ⊢
    have hcol : ∀ j, ((colsF f n V).getD j []).length ≤ 1000 := by
      intro j
      rcases Nat.lt_or_ge j n with h | h
      · rw [cols_get f V h, List.length_map]
        have := List.length_filter_le f V
        omega
      · rw [List.getD_eq_getElem?_getD, List.getElem?_eq_none (by rw [cols_len]; exact h)]
        simp
    refine gets_vc (flag [2000032,2000067,2000081,2000106] spNa) (fun k => [[1,2,3,8,9,10],[1,2,3,8,9,10,11,12,13],[1,2,3,8,9,10,11,12,13,14],[1,2,3,8,9,10,12,15]].getD k []) (fun k => if k = 99 then [⟨4000007, 46, WT⟩] else if k = 0 ∨ k = 3 then [⟨4000009, 46, WT⟩] else [⟨4000009, 46, WT⟩, ⟨11, 3, .int .i64⟩]) 400 (.fork (.fork (.hd 1) (.hd 2)) (.hd 3)) (V := fun G R => let yy0 := (S.getD s.toNat ((Ty.int IntKind.i64).prod (Ty.bool.prod (Ty.int IntKind.i64).sl)).dflt); let yy1 := (Row.box 68 [D.v (Value.int IntKind.i64 g.h), D.v (Value.int IntKind.i64 g.w), D.sl false false Ty.bool g.B, D.sl false false Ty.bool g.R, D.sl false false Ty.bool g.L, D.sl false false (Ty.int IntKind.i64).sl W, D.sl false false (Ty.int IntKind.u64) (Mi M)]); let yy2 := (Ty.int IntKind.i64); let yy3 := (idxF f (0 : Int) V); let yy4 := (NK.mk 46 yy2.sl 0 3 yy2); let yy5 := (Ty.int IntKind.u64); let yy6 := (W.getD i.toNat yy2.sl.dflt); (decide (i < (↑W.length : Int)) = true → (0 : Int) ≤ s ∧ s < (↑S.length : Int) ∧ (0 : Int) ≤ i ∧ i < (↑W.length : Int) ∧ Con Try.prog 126 [] [D.sl false false yy5 (Mi (Nt (Mi m))), D.agg [D.v (Value.int IntKind.i64 yy0.fst), D.v (Value.bool yy0.snd.fst), D.sl false false yy2 yy0.snd.snd], D.sl false false yy2 yy6] (D.v (Value.bool (fitL (Nt (Mi m)) yy0.snd.snd yy6))) [] [] ∧ Mi m = Mi (Nt (Mi m)) ∧ Value.int IntKind.i64 yy0.fst = Value.int IntKind.i64 yy0.fst ∧ Value.bool yy0.snd.fst = Value.bool yy0.snd.fst ∧ yy0.snd.snd = yy0.snd.snd ∧ W.getD i.toNat yy2.sl.dflt = W.getD i.toNat yy2.sl.dflt ∧ ((!fitL (Nt (Mi m)) yy0.snd.snd yy6) = true → SameK (KK n101 1) (KK n101 1) ∧ G 1 (stOf 112 [1, 2, 3, 8, 9, 10, 11, 12, 13] [D.sl false false (yy2.prod (Ty.bool.prod yy2.sl)) S, D.sl false false yy5 (Mi m), D.ptr 0 0 0, D.own 1 0 nx.length none, D.own 2 0 ws.length none, D.v (Value.int IntKind.i64 s), D.own 3 0 yy3.length none, D.own 4 0 n (some n), D.v (Value.int IntKind.i64 (IntKind.i64.wrap (i + (1 : Int))))] [Slot.live yy1, Slot.live (Row.data 80 yy5 (Mi nx)), Slot.live (Row.nest yy4 ws none), Slot.live (Row.data 3 yy2 yy3), Slot.live (Row.nest yy4 (colsF f n V) none)])) ∧ ((!fitL (Nt (Mi m)) yy0.snd.snd yy6) = false → roomy Try.prog 3 (yy3.length + 1) ∧ SameK (KK n101 2) (KK n101 2) ∧ G 2 (stOf 112 [1, 2, 3, 8, 9, 10, 11, 12, 13, 14] [D.sl false false (yy2.prod (Ty.bool.prod yy2.sl)) S, D.sl false false yy5 (Mi m), D.ptr 0 0 0, D.own 1 0 nx.length none, D.own 2 0 ws.length none, D.v (Value.int IntKind.i64 s), D.own 3 0 (yy3.length + 1) none, D.own 4 0 n (some n), D.v (Value.int IntKind.i64 i), D.v (Value.int IntKind.i64 (0 : Int))] [Slot.live yy1, Slot.live (Row.data 80 yy5 (Mi nx)), Slot.live (Row.nest yy4 ws none), Slot.live (Row.data 3 yy2 (List.take yy3.length (List.drop 0 yy3) ++ List.take 1 (List.drop 0 [i]))), Slot.live (Row.nest yy4 (colsF f n V) none)]))) ∧ (decide (i < (↑W.length : Int)) = false → 1 = 1 ∧ roomy Try.prog 46 (ws.length + 1) ∧ SameK (KK n101 3) (KK n101 3) ∧ G 3 (stOf 112 [1, 2, 3, 8, 9, 10, 12, 15] [D.sl false false (yy2.prod (Ty.bool.prod yy2.sl)) S, D.sl false false yy5 (Mi m), D.ptr 0 0 0, D.own 1 0 nx.length none, D.own 2 0 (ws.length + 1) none, D.v (Value.int IntKind.i64 s), D.own 3 0 n (some n), D.v (Value.int IntKind.i64 (0 : Int))] [Slot.live yy1, Slot.live (Row.data 80 yy5 (Mi nx)), Slot.live (Row.nest yy4 (List.take ws.length ws ++ [List.take yy3.length (List.drop 0 yy3)]) none), Slot.live (Row.nest yy4 (colsF f n V) none)]))) hmG (fun G R => by kernel_rfl) ?_
    try dsimp only
    simp only [Ty.dflt, hi1, hw, hcs, take_len, List.drop_zero, List.take_length, Mi_getD, Mi_len, Nt_Mi, Int.toNat_natCast, Mi_set, Nat.zero_add, set_same, List.length_append, List.length_cons, List.length_nil, List.length_set, List.take_zero, List.nil_append, takeSn, take_one, ← hf]
    rw [← hf] at c1
    rcases Bool.eq_false_or_eq_true (f w) with h | h
    · have hle : w.length = n := by
        rw [hf] at h
        rw [← hn]
        exact ((fit_iff m cs w).1 h).1
      rw [h, if_pos rfl, ← cols_yes h] at hx2
      rw [h] at c1
      have hx3 := e101k g W M S m nx ws s F s0 s1 (idxF f 0 V ++ [i]) n (colsF f n V) i i0 (by omega) (cols_len f n V) hcol w hw hle r1 r2 hx2 n 0 (by omega) (by omega)
      rw [List.length_append, List.length_cons, List.length_nil] at hx3
      simp only [h]
      simp (disch := omega) only [wrG, sameK_iff, true_and, and_true, decide_eq_true_eq, decide_eq_false_iff_not, ne_eq, not_false_eq_true, Bool.false_eq_true, Bool.true_eq_false, false_implies, true_implies, Ty.dflt, reduceCtorEq, beq_iff_eq, bne_iff_ne, beq_eq_false_iff_ne, bne_eq_false_iff_eq, Bool.not_eq_true, Bool.not_eq_eq_eq_not, Bool.not_true, Bool.not_false, gt_iff_lt, ge_iff_le, Int.not_lt, Int.not_le]
      repeat' (first | with_reducible refine And.intro ?_ ?_ | intro _)
      all_goals first | rfl | omega | assumption | trivial | exact room3 (by omega) | exact room46 (by omega) | (exfalso; simp_all; done) | (exfalso; omega) | skip
    · rw [h, if_neg (by simp), List.append_nil, cols_no h] at hx2
      rw [h] at c1
      simp only [h]
      simp (disch := omega) only [wrG, sameK_iff, true_and, and_true, decide_eq_true_eq, decide_eq_false_iff_not, ne_eq, not_false_eq_true, Bool.false_eq_true, Bool.true_eq_false, false_implies, true_implies, Ty.dflt, reduceCtorEq, beq_iff_eq, bne_iff_ne, beq_eq_false_iff_ne, bne_eq_false_iff_eq, Bool.not_eq_true, Bool.not_eq_eq_eq_not, Bool.not_true, Bool.not_false, gt_iff_lt, ge_iff_le, Int.not_lt, Int.not_le]
      repeat' (first | with_reducible refine And.intro ?_ ?_ | intro _)
      all_goals first | rfl | omega | assumption | trivial | exact room3 (by omega) | exact room46 (by omega) | (exfalso; simp_all; done) | (exfalso; omega) | skip
theorem words_snoc (W : List (List Int)) (S : List Slt) (s : Slt) (m : List Nat) : wordsF W (S ++ [s]) m = wordsF W S m ++ [idxF (fitL m s.2.2) 0 W] := by simp [wordsF]
def vq21 (g : Gr) (W : List (List Int)) (M : List Nat) (S : List Slt) (m : List Nat) (s : Int) (nx : List Nat) (ws : List (List Int)) (G : Nat → St → Prop) (R : D × List (Option Row) × List Row → Prop) : Prop := let yy0 := (↑(List.length (S.getD s.toNat ((Ty.int IntKind.i64).prod (Ty.bool.prod (Ty.int IntKind.i64).sl)).dflt).snd.snd) : Int); let yy1 := (Ty.int IntKind.i64); (decide (s < (↑S.length : Int)) = true → (0 : Int) ≤ s ∧ s < (↑S.length : Int) ∧ (0 : Int) ≤ yy0 ∧ yy0 ≤ yy0 ∧ yy0 ≤ (9223372036854775807 : Int) ∧ yy0.toNat * 24 ≤ 281474976710656 ∧ SameK (KK n101 1) (KK n101 1) ∧ G 1 (stOf 112 [1, 2, 3, 8, 9, 10, 11, 12, 13] [D.sl false false (yy1.prod (Ty.bool.prod yy1.sl)) S, D.sl false false (Ty.int IntKind.u64) (Mi m), D.ptr 0 0 0, D.own 1 0 nx.length none, D.own 2 0 ws.length none, D.v (Value.int IntKind.i64 s), D.own 3 0 0 none, D.own 4 0 yy0.toNat (some yy0.toNat), D.v (Value.int IntKind.i64 (0 : Int))] [Slot.live (Row.box 68 [D.v (Value.int IntKind.i64 g.h), D.v (Value.int IntKind.i64 g.w), D.sl false false Ty.bool g.B, D.sl false false Ty.bool g.R, D.sl false false Ty.bool g.L, D.sl false false yy1.sl W, D.sl false false (Ty.int IntKind.u64) (Mi M)]), Slot.live (Row.data 80 (Ty.int IntKind.u64) (Mi nx)), Slot.live (Row.nest (NK.mk 46 yy1.sl 0 3 yy1) ws none), Slot.live (Row.data 3 yy1 []), Slot.live (Row.nest (NK.mk 46 yy1.sl 0 3 yy1) (List.replicate yy0.toNat []) none)])) ∧ (decide (s < (↑S.length : Int)) = false → R (D.tup [D.own 0 0 nx.length none, D.own 1 0 ws.length none], [], [Row.data 80 (Ty.int IntKind.u64) (Mi nx), Row.nest (NK.mk 46 yy1.sl 0 3 yy1) ws none]))
theorem e101 (g : Gr) (W : List (List Int)) (M : List Nat) (S : List Slt) (m : List Nat) (F : Fine W S m) (r1 : List Nat) (r2 : List (List Int)) (h2 : wordsF W S m = r2) (z : Nat) : ∀ (s : Int) (nx : List Nat) (ws : List (List Int)), 0 ≤ s → s + z = S.length → nx.length = m.length → Smalls nx → onceFrom W m (S.drop s.toNat) nx = r1 → ws = wordsF W (S.take s.toNat) m → GetsK Try.prog Try.f101.results.toList [none,none] (KK n101) 0 ((.tup [.own 0 0 r1.length none, .own 1 0 r2.length none]), [], [.data 80 (.int .u64) (Mi r1), .nest kW r2 none]) 0 (stOf 112 [1,2,3,8,9,10] [slS S, slU m, .ptr 0 0 0, .own 1 0 nx.length none, .own 2 0 ws.length none, .v (.int .i64 s)] [.live (.box 68 [.v (.int .i64 g.h), .v (.int .i64 g.w), .sl false false .bool g.B, .sl false false .bool g.R, .sl false false .bool g.L, slW W, slU M]), .live (.data 80 (.int .u64) (Mi nx)), .live (.nest kW ws none)]) := by
  have hsl := F.slots
  induction z with
  | zero =>
    intro s nx ws s0 hs hnl hsm h1 hws
    rw [List.drop_eq_nil_of_le (by omega)] at h1
    rw [List.take_of_length_le (by omega), h2] at hws
    have h1 : nx = r1 := h1
    subst h1; subst hws
    refine gets_vc (flag [2000032,2000067,2000081,2000106] spNa) (fun k => [[1,2,3,8,9,10],[1,2,3,8,9,10,11,12,13],[1,2,3,8,9,10,11,12,13,14],[1,2,3,8,9,10,12,15]].getD k []) (fun k => if k = 99 then [⟨4000007, 46, WT⟩] else if k = 0 ∨ k = 3 then [⟨4000009, 46, WT⟩] else [⟨4000009, 46, WT⟩, ⟨11, 3, .int .i64⟩]) 400 (.fork (.hd 1) .stop) (V := vq21 g W M S m s nx ws) hmG (fun G R => by kernel_rfl) ?_
    unfold vq21
    try dsimp only
    simp (disch := omega) only [wrG, sameK_iff, true_and, and_true, decide_eq_true_eq, decide_eq_false_iff_not, ne_eq, not_false_eq_true, Bool.false_eq_true, Bool.true_eq_false, false_implies, true_implies, Ty.dflt, reduceCtorEq, beq_iff_eq, bne_iff_ne, beq_eq_false_iff_ne, bne_eq_false_iff_eq, Bool.not_eq_true, Bool.not_eq_eq_eq_not, Bool.not_true, Bool.not_false, gt_iff_lt, ge_iff_le, Int.not_lt, Int.not_le]
    repeat' (first | with_reducible refine And.intro ?_ ?_ | intro _)
    all_goals first | rfl | omega | assumption | trivial | exact room3 (by omega) | exact room46 (by omega) | (exfalso; simp_all; done) | (exfalso; omega) | skip
  | succ z ih =>
    intro s nx ws s0 hs hnl hsm h1 hws
    have hd := drop_at (xs := S) (i := s) ((0, false, []) : Slt) s0 (by omega)
    have ht := take_succ_at ((0, false, []) : Slt) S s0 (by omega)
    have hc1 := F.cells _ (getD_in (d := (0, false, [])) (k := s.toNat) (by omega))
    obtain ⟨cs, hcs⟩ : ∃ cs, (S.getD s.toNat (0, false, [])).2.2 = cs := ⟨_, rfl⟩
    rw [hd] at h1
    simp only [onceFrom, hcs] at h1
    rw [hcs] at hc1
    have hwl : ws.length = s.toNat := by rw [hws]; simp [wordsF]; omega
    have hx := ih (s + 1) (meetL (thereF W (fitL m cs)) 0 cs nx) (ws ++ [idxF (fitL m cs) 0 W]) (by omega) (by omega) (by rw [meet_len]; exact hnl) (meet_smalls hsm) h1 (by rw [ht, words_snoc, hws, hcs])
    have hx3 := e101c g W M S m cs.length (fitL m cs) (ws ++ [idxF (fitL m cs) 0 W]) s F s0 (by omega) cs hcs rfl r1 r2 _ hx cs.length 0 nx (by omega) (by omega) hnl hsm rfl
    have hx1 := e101w g W M S m nx ws s F s0 (by omega) cs hcs cs.length rfl (fitL m cs) rfl (by omega) r1 r2 hx3 W.length 0 (by omega) (by omega)
    simp only [show (0 : Int).toNat = 0 by rfl, List.take_zero, cols_nil, idxF, List.length_nil] at hx1
    refine gets_vc (flag [2000032,2000067,2000081,2000106] spNa) (fun k => [[1,2,3,8,9,10],[1,2,3,8,9,10,11,12,13],[1,2,3,8,9,10,11,12,13,14],[1,2,3,8,9,10,12,15]].getD k []) (fun k => if k = 99 then [⟨4000007, 46, WT⟩] else if k = 0 ∨ k = 3 then [⟨4000009, 46, WT⟩] else [⟨4000009, 46, WT⟩, ⟨11, 3, .int .i64⟩]) 400 (.fork (.hd 1) .stop) (V := vq21 g W M S m s nx ws) hmG (fun G R => by kernel_rfl) ?_
    unfold vq21
    try dsimp only
    simp only [Ty.dflt, hcs, Int.toNat_natCast]
    simp (disch := omega) only [wrG, sameK_iff, true_and, and_true, decide_eq_true_eq, decide_eq_false_iff_not, ne_eq, not_false_eq_true, Bool.false_eq_true, Bool.true_eq_false, false_implies, true_implies, Ty.dflt, reduceCtorEq, beq_iff_eq, bne_iff_ne, beq_eq_false_iff_ne, bne_eq_false_iff_eq, Bool.not_eq_true, Bool.not_eq_eq_eq_not, Bool.not_true, Bool.not_false, gt_iff_lt, ge_iff_le, Int.not_lt, Int.not_le]
    repeat' (first | with_reducible refine And.intro ?_ ?_ | intro _)
    all_goals first | rfl | omega | assumption | trivial | exact room3 (by omega) | exact room46 (by omega) | (exfalso; simp_all; done) | (exfalso; omega) | skip
theorem d101 (g : Gr) (W : List (List Int)) (M : List Nat) (S : List Slt) (m : List Nat) (F : Fine W S m) : Con Try.prog 101 [] [.agg [.v (.int .i64 g.h), .v (.int .i64 g.w), .sl false false .bool g.B, .sl false false .bool g.R, .sl false false .bool g.L, slW W, slU M], slS S, slU m] ((.tup [.own 0 0 (onceF W S m).length none, .own 1 0 (wordsF W S m).length none])) [] [.data 80 (.int .u64) (Mi (onceF W S m)), .nest kW (wordsF W S m) none] := by
  refine con_vc (how := [none,none]) (c := n101) (K := (KK n101)) (flag [2000032,2000067,2000081,2000106] spNa) (fun k => [[1,2,3,8,9,10],[1,2,3,8,9,10,11,12,13],[1,2,3,8,9,10,11,12,13,14],[1,2,3,8,9,10,12,15]].getD k []) (fun k => if k = 99 then [⟨4000007, 46, WT⟩] else if k = 0 ∨ k = 3 then [⟨4000009, 46, WT⟩] else [⟨4000009, 46, WT⟩, ⟨11, 3, .int .i64⟩]) 400 (.hd 0) (V := fun G R => let yy0 := (Ty.int IntKind.i64); roomy Try.prog 80 (0 + (Mi m).length) ∧ SameK (KK n101 0) (KK n101 0) ∧ G 0 (stOf 112 [1, 2, 3, 8, 9, 10] [D.sl false false (yy0.prod (Ty.bool.prod yy0.sl)) S, D.sl false false (Ty.int IntKind.u64) (Mi m), D.ptr 0 0 0, D.own 1 0 (0 + (Mi m).length) none, D.own 2 0 0 none, D.v (Value.int IntKind.i64 (0 : Int))] [Slot.live (Row.box 68 [D.v (Value.int IntKind.i64 g.h), D.v (Value.int IntKind.i64 g.w), D.sl false false Ty.bool g.B, D.sl false false Ty.bool g.R, D.sl false false Ty.bool g.L, D.sl false false yy0.sl W, D.sl false false (Ty.int IntKind.u64) (Mi M)]), Slot.live (Row.data 80 (Ty.int IntKind.u64) (List.take 0 (List.drop 0 []) ++ Mi m)), Slot.live (Row.nest (NK.mk 46 yy0.sl 0 3 yy0) [] none)])) hmG Try.func101 (by kernel_rfl) (by kernel_rfl) (fun G R => by kernel_rfl) ?_
  try dsimp only
  try dsimp only
  have hx := e101 g W M S m F _ _ rfl S.length 0 m [] (by omega) (by omega) rfl F.small rfl rfl
  simp only [Nat.zero_add, Mi_len, List.take_zero, List.drop_zero, List.nil_append, List.length_nil] at hx ⊢
  have hsz := F.size
  simp (disch := omega) only [wrG, sameK_iff, true_and, and_true, decide_eq_true_eq, decide_eq_false_iff_not, ne_eq, not_false_eq_true, Bool.false_eq_true, Bool.true_eq_false, false_implies, true_implies, Ty.dflt, reduceCtorEq, beq_iff_eq, bne_iff_ne, beq_eq_false_iff_ne, bne_eq_false_iff_eq, Bool.not_eq_true, Bool.not_eq_eq_eq_not, Bool.not_true, Bool.not_false, gt_iff_lt, ge_iff_le, Int.not_lt, Int.not_le]
  repeat' (first | with_reducible refine And.intro ?_ ?_ | intro _)
  all_goals first | rfl | omega | assumption | trivial | exact room80 (by omega) | exact hx | skip
end Go.Proofs.YtnakmganodkliaaAm
namespace Go.Proofs.YtnakmganodkliaaAm
open Go
theorem d65s (g : Gr) : Con Try.prog 65 [] [g.d] (slS (slotsF g)) [] [] := con_frzS rfl (d65 g)
theorem d100s (g : Gr) : Con Try.prog 100 [] [g.d] (slS (slotsF g)) [] [] := con_frzS rfl (d100 g)
theorem Mi_take (m : List Nat) : (Mi m).take m.length = Mi m := List.take_of_length_le (by rw [Mi_len]; omega)
def markCells : List Int → List Bool → List Bool
  | [], b => b
  | c :: cs, b => markCells cs (b.set c.toNat true)
def markSlots : List Slt → List Bool → List Bool
  | [], b => b
  | s :: ss, b => markSlots ss (markCells s.2.2 b)
def restB (sd : List Bool) (m : List Nat) : Nat → Int → Bool
  | 0, _ => true
  | z + 1, c => (!sd.getD c.toNat false || m.getD c.toNat 0 != 0) && restB sd m z (c + 1)
theorem markCells_len : ∀ (cs : List Int) (b : List Bool), (markCells cs b).length = b.length
  | [], _ => rfl
  | c :: cs, b => by simp only [markCells]; rw [markCells_len cs]; simp
theorem seatCells_len (M : List Nat) : ∀ (cs : List Int) (m : List Nat), (seatCells M cs m).length = m.length
  | [], _ => rfl
  | c :: cs, m => by simp only [seatCells]; rw [seatCells_len M cs]; simp
theorem seatSlots_len (M : List Nat) : ∀ (ss : List Slt) (m : List Nat), (seatSlots M ss m).length = m.length
  | [], _ => rfl
  | s :: ss, m => by simp only [seatSlots]; rw [seatSlots_len M ss, seatCells_len]
theorem seatCells_small {M : List Nat} (hM : Smalls M) : ∀ (cs : List Int) {m : List Nat}, Smalls m → Smalls (seatCells M cs m)
  | [], _, h => h
  | c :: cs, m, h => by
    simp only [seatCells]
    refine seatCells_small hM cs ?_
    intro x hx
    rcases List.mem_or_eq_of_mem_set hx with hx | hx
    · exact h x hx
    · rw [hx]; exact hM.at _
theorem seatSlots_small {M : List Nat} (hM : Smalls M) : ∀ (ss : List Slt) {m : List Nat}, Smalls m → Smalls (seatSlots M ss m)
  | [], _, h => h
  | s :: ss, m, h => by
    simp only [seatSlots]
    exact seatSlots_small hM ss (seatCells_small hM _ h)
theorem mark_get : ∀ (cs : List Int) (b : List Bool) (j : Nat), j < b.length → (markCells cs b).getD j false = (b.getD j false || cs.any (fun c => c.toNat == j))
  | [], b, j, _ => by simp [markCells]
  | c :: cs, b, j, hj => by
    simp only [markCells, List.any_cons]
    rw [mark_get cs _ j (by simpa using hj), getD_set_gen]
    by_cases h : c.toNat = j
    · subst h
      rw [if_pos ⟨rfl, hj⟩]
      simp
    · rw [if_neg (fun e => h e.1), beq_eq_false_iff_ne.2 h, Bool.false_or]
theorem markS_get : ∀ (ss : List Slt) (b : List Bool) (j : Nat), j < b.length → (markSlots ss b).getD j false = (b.getD j false || ss.any (fun s => s.2.2.any (fun c => c.toNat == j)))
  | [], b, j, _ => by simp [markSlots]
  | s :: ss, b, j, hj => by
    simp only [markSlots, List.any_cons]
    rw [markS_get ss _ j (by rw [markCells_len]; exact hj), mark_get _ b j hj, Bool.or_assoc]
theorem rest_iff (sd : List Bool) (m : List Nat) : ∀ (z : Nat) (c : Int), 0 ≤ c → (restB sd m z c = true ↔ ∀ j : Nat, c.toNat ≤ j → j < c.toNat + z → sd.getD j false = true → m.getD j 0 ≠ 0)
  | 0, c, _ => by simp [restB]; intros; omega
  | z + 1, c, h => by
    simp only [restB, Bool.and_eq_true, rest_iff sd m z (c + 1) (by omega)]
    rw [show (c + 1).toNat = c.toNat + 1 by omega]
    constructor
    · rintro ⟨h1, h2⟩ j hj1 hj2 hs
      by_cases e : j = c.toNat
      · subst e
        rw [hs] at h1
        simpa using h1
      · exact h2 j (by omega) (by omega) hs
    · intro h1
      refine ⟨?_, fun j hj1 hj2 hs => h1 j (by omega) (by omega) hs⟩
      cases e : sd.getD c.toNat false with
      | false => rfl
      | true => simpa using h1 c.toNat (by omega) (by omega) e
theorem rest_all {S : List Slt} {m : List Nat} {n : Nat} (hn : m.length = n) (hS : ∀ s ∈ S, ∀ c ∈ s.2.2, 0 ≤ c ∧ c < n) : restB (markSlots S (List.replicate n false)) m n 0 = S.all fun s => s.2.2.all fun c => m.getD c.toNat 0 != 0 := by
  apply Bool.eq_iff_iff.2
  rw [rest_iff _ _ _ _ (by omega), List.all_eq_true]
  constructor
  · intro h s hs
    rw [List.all_eq_true]
    intro c hc
    have h1 := hS s hs c hc
    have := h c.toNat (by omega) (by omega) (by
      rw [markS_get _ _ _ (by simp; omega)]
      rw [Bool.or_eq_true]
      right
      rw [List.any_eq_true]
      exact ⟨s, hs, by rw [List.any_eq_true]; exact ⟨c, hc, by simp⟩⟩)
    simpa using this
  · intro h j _ hj hs
    rw [markS_get _ _ _ (by simp; omega), Bool.or_eq_true] at hs
    rcases hs with hs | hs
    · have e : (List.replicate n false).getD j false = false := by
        rw [List.getD_eq_getElem?_getD, List.getElem?_replicate]
        split <;> rfl
      rw [e] at hs
      cases hs
    · rw [List.any_eq_true] at hs
      obtain ⟨s, h1, h2⟩ := hs
      rw [List.any_eq_true] at h2
      obtain ⟨c, h3, h4⟩ := h2
      have h5 := h s h1
      rw [List.all_eq_true] at h5
      have h6 := h5 c h3
      rw [beq_iff_eq] at h4
      rw [h4] at h6
      simpa using h6
theorem Mi_inj {a b : List Nat} (h : Mi a = Mi b) : a = b := by rw [← Nt_Mi a, h, Nt_Mi]
theorem cast_bne0 (a : Nat) : ((a : Int) != 0) = (a != 0) := by
  apply Bool.eq_iff_iff.2
  simp only [bne_iff_ne, ne_eq]
  omega
theorem leq_small {a b : List Nat} (h : Leq a b) (hb : Smalls b) : Smalls a := by
  intro x hx
  obtain ⟨j, hj, e⟩ := List.getElem_of_mem hx
  have h1 : a.getD j 0 = x := by rw [List.getD_eq_getElem?_getD, List.getElem?_eq_getElem hj, e]; rfl
  rw [← h1]
  exact Nat.lt_of_le_of_lt (sub_le fun i hi => h j i hi) (hb.at j)
theorem checkP_zero {p : Pr} (h : checkP p = 0) : checkF p.g = 0 ∧ (p.W.length : Int) ≤ 1000 ∧ (∀ w ∈ p.W, 1 ≤ w.length ∧ w.length ≤ 32 ∧ ∀ c ∈ w, 0 ≤ c ∧ c < 64) ∧ (p.M.length : Int) = p.g.h * p.g.w := by
  unfold checkP at h
  by_cases h1 : checkF p.g = 0
  · rw [if_pos h1] at h
    by_cases h2 : (p.W.length : Int) > 1000
    · rw [if_pos h2] at h; exact absurd h (by decide)
    · rw [if_neg h2] at h
      cases h3 : p.W.any badW with
      | true => rw [h3, if_pos rfl] at h; exact absurd h (by decide)
      | false =>
        rw [h3] at h
        simp only [Bool.false_eq_true, if_false] at h
        by_cases h4 : (p.M.length : Int) = p.g.h * p.g.w
        · refine ⟨h1, by omega, fun w hw => ?_, h4⟩
          have hb : badW w = false := by
            cases e : badW w with
            | false => rfl
            | true =>
              have : p.W.any badW = true := List.any_eq_true.2 ⟨w, hw, e⟩
              rw [h3] at this; cases this
          unfold badW at hb
          rw [Bool.or_eq_false_iff, Bool.or_eq_false_iff, decide_eq_false_iff_not, decide_eq_false_iff_not] at hb
          refine ⟨by omega, by omega, fun c hc => ?_⟩
          have ho : oddB c = false := by
            cases e : oddB c with
            | false => rfl
            | true =>
              have : w.any oddB = true := List.any_eq_true.2 ⟨c, hc, e⟩
              rw [hb.2] at this; cases this
          unfold oddB at ho
          rw [Bool.or_eq_false_iff, decide_eq_false_iff_not, decide_eq_false_iff_not] at ho
          omega
        · rw [if_neg h4] at h; exact absurd h (by decide)
  · rw [if_neg h1] at h; exact absurd h h1
theorem fine_of {g : Gr} {W : List (List Int)} {M : List Nat} (h : checkP ⟨g, W, M⟩ = 0) (hM : Smalls M) : Fine W (slotsF g) M := by
  obtain ⟨h1, h2, h3, h4⟩ := checkP_zero h
  simp only at h1 h2 h3 h4
  have hw := hw_in (chk0.1 h1).1 (chk0.1 h1).2.1
  have hl : (slotsF g).length ≤ 2 * (g.h * g.w).toNat := by
    unfold slotsF
    rw [if_pos h1]
    exact sl_len g _ 0 0
  refine ⟨h2, fun w hw => (h3 w hw).2.1, by omega, fun s hs => ?_, by omega, hM⟩
  have hin := slots_in h1 s hs
  refine ⟨?_, fun c hc => by have := hin c hc; omega⟩
  unfold slotsF at hs
  rw [if_pos h1] at hs
  have := (slots_open _ _ _ s hs).1
  omega
end Go.Proofs.YtnakmganodkliaaAm
namespace Go.Proofs.YtnakmganodkliaaAm
open Go
structure LookOk (W : List (List Int)) (m : List Nat) (C L : List Int) : Prop where
  mem : ∀ i ∈ L, 0 ≤ i ∧ i < W.length ∧ (wordAt W i).length = C.length ∧ ∀ c ∈ wordAt W i, 0 ≤ c ∧ c < 64
  words : W.length ≤ 1000
  long : L.length ≤ 1000
  size : C.length ≤ 300
  cells : ∀ c ∈ C, 0 ≤ c ∧ c < m.length
  small : Smalls m
theorem orW_len : ∀ (w : List Int) (k : Nat) (th : List Nat), (orW k w th).length = th.length
  | [], _, _ => rfl
  | c :: w, k, th => by simp only [orW]; rw [orW_len w]; simp
theorem orI_cons (W : List (List Int)) (m : List Nat) (C : List Int) (i : Int) (L : List Int) (th : List Nat) : orI W m C th (i :: L) = orI W m C (if fitL m C (wordAt W i) then orW 0 (wordAt W i) th else th) L := rfl
theorem orI_len (W : List (List Int)) (m : List Nat) (C : List Int) : ∀ (L : List Int) (th : List Nat), (orI W m C th L).length = th.length
  | [], _ => rfl
  | i :: L, th => by
    rw [orI_cons, orI_len W m C L]
    split
    · exact orW_len _ _ _
    · rfl
theorem orI_one (W : List (List Int)) (m : List Nat) (C : List Int) (i : Int) (th : List Nat) : orI W m C th [i] = if fitL m C (wordAt W i) then orW 0 (wordAt W i) th else th := rfl
theorem orI_append (W : List (List Int)) (m : List Nat) (C : List Int) (A B : List Int) (th : List Nat) : orI W m C th (A ++ B) = orI W m C (orI W m C th A) B := by
  unfold orI
  rw [List.foldl_append]
theorem orW_small : ∀ (w : List Int) (k : Nat) (th : List Nat), (∀ c ∈ w, 0 ≤ c ∧ c < 64) → Smalls th → Smalls (orW k w th)
  | [], _, _, _, h => h
  | c :: w, k, th, hw, h => by
    simp only [orW]
    refine orW_small w _ _ (fun x hx => hw x (List.mem_cons_of_mem _ hx)) ?_
    have hc := hw c List.mem_cons_self
    intro x hx
    rcases List.mem_or_eq_of_mem_set hx with hx | hx
    · exact h x hx
    · rw [hx]
      refine or_lt (h.at _) ?_
      unfold bitN
      rw [if_neg (by omega)]
      exact u64_mask (by omega)
theorem orI_small (W : List (List Int)) (m : List Nat) (C : List Int) : ∀ (L : List Int) (th : List Nat), (∀ i ∈ L, ∀ c ∈ wordAt W i, 0 ≤ c ∧ c < 64) → Smalls th → Smalls (orI W m C th L)
  | [], _, _, h => h
  | i :: L, th, hL, h => by
    rw [orI_cons]
    refine orI_small W m C L _ (fun x hx => hL x (List.mem_cons_of_mem _ hx)) ?_
    split
    · exact orW_small _ _ _ (hL i List.mem_cons_self) h
    · exact h
theorem keepI_append (W : List (List Int)) (m : List Nat) (C A B : List Int) : keepI W m C (A ++ B) = keepI W m C A ++ keepI W m C B := List.filter_append ..
theorem keepI_one (W : List (List Int)) (m : List Nat) (C : List Int) (x : Int) : keepI W m C [x] = if fitL m C (wordAt W x) then [x] else [] := by
  unfold keepI
  rw [List.filter_cons]
  rfl
theorem take_set_snoc {α : Type} : ∀ (xs : List α) (i : Nat) (x : α), i < xs.length → (xs.set i x).take (i + 1) = xs.take i ++ [x]
  | [], i, _, h => by simp at h
  | a :: xs, 0, x, _ => by simp
  | a :: xs, i + 1, x, h => by
    simp only [List.set_cons_succ, List.take_succ_cons, List.cons_append]
    rw [take_set_snoc xs i x (by simpa using h)]
theorem drop_set_lt {α : Type} : ∀ (xs : List α) (i j : Nat) (x : α), i < j → (xs.set i x).drop j = xs.drop j
  | [], i, j, x, _ => by simp
  | a :: xs, i, 0, x, h => by omega
  | a :: xs, 0, j + 1, x, _ => by simp
  | a :: xs, i + 1, j + 1, x, h => by
    simp only [List.set_cons_succ, List.drop_succ_cons]
    exact drop_set_lt xs i j x (by omega)
theorem find_facts (f : Int → Bool) : ∀ (L : List Int) (k : Int), 0 ≤ k → (findI f k L = -1 ∧ ∀ x ∈ L, f x = false) ∨ ∃ r : Nat, findI f k L = k + r ∧ r < L.length ∧ f (L.getD r 0) = true ∧ (∀ x ∈ L.take r, f x = false)
  | [], k, _ => .inl ⟨rfl, by simp⟩
  | x :: L, k, h => by
    simp only [findI]
    rcases Bool.eq_false_or_eq_true (f x) with e | e
    · rw [if_pos e]
      exact .inr ⟨0, by simp, by simp, by simpa using e, by simp⟩
    · rw [if_neg (by simp [e])]
      rcases find_facts f L (k + 1) (by omega) with ⟨h1, h2⟩ | ⟨r, h1, h2, h3, h4⟩
      · refine .inl ⟨h1, ?_⟩
        intro y hy
        rcases List.mem_cons.1 hy with hy | hy
        · rw [hy]; exact e
        · exact h2 y hy
      · refine .inr ⟨r + 1, by rw [h1]; omega, by simpa using h2, by simpa using h3, ?_⟩
        intro y hy
        rw [List.take_succ_cons] at hy
        rcases List.mem_cons.1 hy with hy | hy
        · rw [hy]; exact e
        · exact h4 y hy
theorem takeWhile_all {α : Type} (g : α → Bool) : ∀ (L : List α), (∀ x ∈ L, g x = true) → L.takeWhile g = L
  | [], _ => rfl
  | x :: L, h => by
    rw [List.takeWhile_cons, h x List.mem_cons_self]
    simp only [if_true]
    rw [takeWhile_all g L fun y hy => h y (List.mem_cons_of_mem _ hy)]
theorem takeWhile_at {α : Type} (g : α → Bool) (d : α) : ∀ (L : List α) (r : Nat), r < L.length → g (L.getD r d) = false → (∀ x ∈ L.take r, g x = true) → L.takeWhile g = L.take r
  | [], r, h, _, _ => by simp at h
  | x :: L, 0, _, h2, _ => by
    rw [List.takeWhile_cons]
    have h2 : g x = false := by simpa using h2
    rw [h2]
    simp
  | x :: L, r + 1, h1, h2, h3 => by
    rw [List.takeWhile_cons, h3 x (by rw [List.take_succ_cons]; exact List.mem_cons_self)]
    simp only [if_true, List.take_succ_cons]
    rw [takeWhile_at g d L r (by simpa using h1) (by simpa using h2) fun y hy => h3 y (by rw [List.take_succ_cons]; exact List.mem_cons_of_mem _ hy)]
theorem keepI_all {W : List (List Int)} {m : List Nat} {C : List Int} : ∀ {L : List Int}, (∀ x ∈ L, fitL m C (wordAt W x) = true) → keepI W m C L = L
  | [], _ => rfl
  | x :: L, h => by
    rw [show x :: L = [x] ++ L from rfl, keepI_append, keepI_one, if_pos (h x List.mem_cons_self), keepI_all fun y hy => h y (List.mem_cons_of_mem _ hy)]
theorem keepI_le (W : List (List Int)) (m : List Nat) (C L : List Int) : (keepI W m C L).length ≤ L.length := List.length_filter_le _ _
theorem bit_and (v : Nat) (hv : v < W64) {x : Int} (h0 : 0 ≤ x) (h1 : x < 64) : (IntKind.u64.wrap (((BitVec.ofInt 64 (Int.fdiv (v : Int) (2 ^ min x.toNat 64)) &&& BitVec.ofInt 64 1).toNat : Nat) : Int) == 0) = !hasN v x := by
  have ha : (BitVec.ofInt 64 ((v / 2 ^ x.toNat : Nat) : Int) &&& BitVec.ofInt 64 1).toNat = (v / 2 ^ x.toNat) &&& 1 := andU (a := v / 2 ^ x.toNat) (b := 1) (Nat.lt_of_le_of_lt (Nat.div_le_self _ _) hv) (by decide)
  rw [shr1 v h1, ha, has_and h0 h1, Nat.and_one_is_mod]
  have hlt : v / 2 ^ x.toNat % 2 < 2 := Nat.mod_lt _ (by omega)
  have hw : IntKind.u64.wrap ((v / 2 ^ x.toNat % 2 : Nat) : Int) = ((v / 2 ^ x.toNat % 2 : Nat) : Int) := wrU (by omega) (by omega)
  rw [hw]
  apply Bool.eq_iff_iff.2
  simp only [beq_iff_eq, Bool.not_eq_true', decide_eq_false_iff_not]
  omega
end Go.Proofs.YtnakmganodkliaaAm
