/- The contracts of the reference's seats. -/
import Derived.Test.YtnakmganodkliaaDoorSlH0
set_option linter.unusedVariables false
set_option linter.unusedSimpArgs false
set_option maxRecDepth 100000
namespace Go.Proofs.YtnakmganodkliaaDoorAm
open Go

theorem e82_1 (S : List (Int × Bool × List Int)) (c s : Int) (d : Bool) (x : Int × Bool × List Int) (r : D × List (Option Row) × List Row) (s0 : 0 ≤ s) (sl : s < S.length) (hS : S.length ≤ 600) (hx : S.getD s.toNat (Ty.dflt (.prod (.int .i64) (.prod .bool (.sl (.int .i64))))) = x) (hl : x.2.2.length ≤ 300) (m : Nat) : ∀ (k : Int), 0 ≤ k → k + m = x.2.2.length →
    (match (if x.2.1 = d then findC c k (x.2.2.drop k.toNat) else none) with | some k' => r = (.agg [.v (.int .i64 (s, k').1), .v (.int .i64 (s, k').2)], [], []) | none => GetsK Tryd.prog Tryd.f82.results.toList [none] (KK q82) 0 r 0 (stOf 48 [0,1,2,6,7] [.sl false false SlT S, .v (.int .i64 c), .v (.bool d), .ptr 0 0 0, .v (.int .i64 (s + 1))] [.live (.box 61 [.v (.int .i64 0), .v (.int .i64 0)])])) → GetsK Tryd.prog Tryd.f82.results.toList [none] (KK q82) 0 r 1 (stOf 48 [0,1,2,6,7,8] [.sl false false SlT S, .v (.int .i64 c), .v (.bool d), .ptr 0 0 0, .v (.int .i64 s), .v (.int .i64 k)] [.live (.box 61 [.v (.int .i64 0), .v (.int .i64 0)])]) := by
  induction m with
  | zero =>
    intro k k0 km h
    rw [List.drop_eq_nil_of_le (by omega)] at h
    simp only [findC, ite_self] at h
    refine gets_vc spH (fun k => [[0,1,2,6,7],[0,1,2,6,7,8]].getD k []) (fun _ => []) 400 (.fork (.fork (.fork .stop (.hd 1)) (.f (.hd 1))) (.hd 0)) (V := fun G R => (0 : Int) ≤ s ∧ s < (↑S.length : Int) ∧ (decide (k < (↑(List.length (S.getD s.toNat ((Ty.int IntKind.i64).prod (Ty.bool.prod (Ty.int IntKind.i64).sl)).dflt).snd.snd) : Int)) = true → (0 : Int) ≤ s ∧ s < (↑S.length : Int) ∧ (((S.getD s.toNat ((Ty.int IntKind.i64).prod (Ty.bool.prod (Ty.int IntKind.i64).sl)).dflt).snd.fst == d) = true → (0 : Int) ≤ s ∧ s < (↑S.length : Int) ∧ (0 : Int) ≤ k ∧ k < (↑(List.length (S.getD s.toNat ((Ty.int IntKind.i64).prod (Ty.bool.prod (Ty.int IntKind.i64).sl)).dflt).snd.snd) : Int) ∧ ((List.getD (S.getD s.toNat ((Ty.int IntKind.i64).prod (Ty.bool.prod (Ty.int IntKind.i64).sl)).dflt).snd.snd k.toNat (Ty.int IntKind.i64).dflt == c) = true → R (D.agg [D.v (Value.int IntKind.i64 s), D.v (Value.int IntKind.i64 k)], [], [])) ∧ ((List.getD (S.getD s.toNat ((Ty.int IntKind.i64).prod (Ty.bool.prod (Ty.int IntKind.i64).sl)).dflt).snd.snd k.toNat (Ty.int IntKind.i64).dflt == c) = false → SameK (KK q82 1) (KK q82 1) ∧ G 1 (stOf 48 [0, 1, 2, 6, 7, 8] [D.sl false false ((Ty.int IntKind.i64).prod (Ty.bool.prod (Ty.int IntKind.i64).sl)) S, D.v (Value.int IntKind.i64 c), D.v (Value.bool d), D.ptr 0 0 0, D.v (Value.int IntKind.i64 s), D.v (Value.int IntKind.i64 (IntKind.i64.wrap (k + (1 : Int))))] [Slot.live (Row.box 61 [D.v (Value.int IntKind.i64 (0 : Int)), D.v (Value.int IntKind.i64 (0 : Int))])]))) ∧ (((S.getD s.toNat ((Ty.int IntKind.i64).prod (Ty.bool.prod (Ty.int IntKind.i64).sl)).dflt).snd.fst == d) = false → false = false ∧ SameK (KK q82 1) (KK q82 1) ∧ G 1 (stOf 48 [0, 1, 2, 6, 7, 8] [D.sl false false ((Ty.int IntKind.i64).prod (Ty.bool.prod (Ty.int IntKind.i64).sl)) S, D.v (Value.int IntKind.i64 c), D.v (Value.bool d), D.ptr 0 0 0, D.v (Value.int IntKind.i64 s), D.v (Value.int IntKind.i64 (IntKind.i64.wrap (k + (1 : Int))))] [Slot.live (Row.box 61 [D.v (Value.int IntKind.i64 (0 : Int)), D.v (Value.int IntKind.i64 (0 : Int))])]))) ∧ (decide (k < (↑(List.length (S.getD s.toNat ((Ty.int IntKind.i64).prod (Ty.bool.prod (Ty.int IntKind.i64).sl)).dflt).snd.snd) : Int)) = false → SameK (KK q82 0) (KK q82 0) ∧ G 0 (stOf 48 [0, 1, 2, 6, 7] [D.sl false false ((Ty.int IntKind.i64).prod (Ty.bool.prod (Ty.int IntKind.i64).sl)) S, D.v (Value.int IntKind.i64 c), D.v (Value.bool d), D.ptr 0 0 0, D.v (Value.int IntKind.i64 (IntKind.i64.wrap (s + (1 : Int))))] [Slot.live (Row.box 61 [D.v (Value.int IntKind.i64 (0 : Int)), D.v (Value.int IntKind.i64 (0 : Int))])]))) hmG (fun G R => by kernel_rfl) ?_
    rw [hx]
    simp (disch := omega) only [wrG, sameK_iff, true_and, and_true, decide_eq_true_eq, decide_eq_false_iff_not, ne_eq, not_false_eq_true, Bool.false_eq_true, Bool.true_eq_false, false_implies, true_implies, Ty.dflt, reduceCtorEq, beq_iff_eq, bne_iff_ne, beq_eq_false_iff_ne, bne_eq_false_iff_eq, Bool.not_eq_true, Bool.not_eq_eq_eq_not, Bool.not_true, Bool.not_false, gt_iff_lt, ge_iff_le, Int.not_lt, Int.not_le]
    repeat' (first | with_reducible refine And.intro ?_ ?_ | intro _)
    all_goals first | rfl | omega | assumption | trivial | (exfalso; simp_all; done) | skip
  | succ m ih =>
    intro k k0 km h
    have hd := drop_at (xs := x.2.2) (i := k) (0 : Int) k0 (by omega)
    have hi := ih (k + 1) (by omega) (by omega)
    rw [hd] at h
    simp only [findC] at h
    refine gets_vc spH (fun k => [[0,1,2,6,7],[0,1,2,6,7,8]].getD k []) (fun _ => []) 400 (.fork (.fork (.fork .stop (.hd 1)) (.f (.hd 1))) (.hd 0)) (V := fun G R => (0 : Int) ≤ s ∧ s < (↑S.length : Int) ∧ (decide (k < (↑(List.length (S.getD s.toNat ((Ty.int IntKind.i64).prod (Ty.bool.prod (Ty.int IntKind.i64).sl)).dflt).snd.snd) : Int)) = true → (0 : Int) ≤ s ∧ s < (↑S.length : Int) ∧ (((S.getD s.toNat ((Ty.int IntKind.i64).prod (Ty.bool.prod (Ty.int IntKind.i64).sl)).dflt).snd.fst == d) = true → (0 : Int) ≤ s ∧ s < (↑S.length : Int) ∧ (0 : Int) ≤ k ∧ k < (↑(List.length (S.getD s.toNat ((Ty.int IntKind.i64).prod (Ty.bool.prod (Ty.int IntKind.i64).sl)).dflt).snd.snd) : Int) ∧ ((List.getD (S.getD s.toNat ((Ty.int IntKind.i64).prod (Ty.bool.prod (Ty.int IntKind.i64).sl)).dflt).snd.snd k.toNat (Ty.int IntKind.i64).dflt == c) = true → R (D.agg [D.v (Value.int IntKind.i64 s), D.v (Value.int IntKind.i64 k)], [], [])) ∧ ((List.getD (S.getD s.toNat ((Ty.int IntKind.i64).prod (Ty.bool.prod (Ty.int IntKind.i64).sl)).dflt).snd.snd k.toNat (Ty.int IntKind.i64).dflt == c) = false → SameK (KK q82 1) (KK q82 1) ∧ G 1 (stOf 48 [0, 1, 2, 6, 7, 8] [D.sl false false ((Ty.int IntKind.i64).prod (Ty.bool.prod (Ty.int IntKind.i64).sl)) S, D.v (Value.int IntKind.i64 c), D.v (Value.bool d), D.ptr 0 0 0, D.v (Value.int IntKind.i64 s), D.v (Value.int IntKind.i64 (IntKind.i64.wrap (k + (1 : Int))))] [Slot.live (Row.box 61 [D.v (Value.int IntKind.i64 (0 : Int)), D.v (Value.int IntKind.i64 (0 : Int))])]))) ∧ (((S.getD s.toNat ((Ty.int IntKind.i64).prod (Ty.bool.prod (Ty.int IntKind.i64).sl)).dflt).snd.fst == d) = false → false = false ∧ SameK (KK q82 1) (KK q82 1) ∧ G 1 (stOf 48 [0, 1, 2, 6, 7, 8] [D.sl false false ((Ty.int IntKind.i64).prod (Ty.bool.prod (Ty.int IntKind.i64).sl)) S, D.v (Value.int IntKind.i64 c), D.v (Value.bool d), D.ptr 0 0 0, D.v (Value.int IntKind.i64 s), D.v (Value.int IntKind.i64 (IntKind.i64.wrap (k + (1 : Int))))] [Slot.live (Row.box 61 [D.v (Value.int IntKind.i64 (0 : Int)), D.v (Value.int IntKind.i64 (0 : Int))])]))) ∧ (decide (k < (↑(List.length (S.getD s.toNat ((Ty.int IntKind.i64).prod (Ty.bool.prod (Ty.int IntKind.i64).sl)).dflt).snd.snd) : Int)) = false → SameK (KK q82 0) (KK q82 0) ∧ G 0 (stOf 48 [0, 1, 2, 6, 7] [D.sl false false ((Ty.int IntKind.i64).prod (Ty.bool.prod (Ty.int IntKind.i64).sl)) S, D.v (Value.int IntKind.i64 c), D.v (Value.bool d), D.ptr 0 0 0, D.v (Value.int IntKind.i64 (IntKind.i64.wrap (s + (1 : Int))))] [Slot.live (Row.box 61 [D.v (Value.int IntKind.i64 (0 : Int)), D.v (Value.int IntKind.i64 (0 : Int))])]))) hmG (fun G R => by kernel_rfl) ?_
    rw [hx]
    simp only [Ty.dflt]
    by_cases h1 : x.2.1 = d
    · simp only [h1, if_true] at h hi
      by_cases h2 : x.2.2.getD k.toNat 0 = c
      · simp only [h2, if_true] at h
        subst h
        simp (disch := omega) only [wrG, sameK_iff, true_and, and_true, decide_eq_true_eq, decide_eq_false_iff_not, ne_eq, not_false_eq_true, Bool.false_eq_true, Bool.true_eq_false, false_implies, true_implies, Ty.dflt, reduceCtorEq, beq_iff_eq, bne_iff_ne, beq_eq_false_iff_ne, bne_eq_false_iff_eq, Bool.not_eq_true, Bool.not_eq_eq_eq_not, Bool.not_true, Bool.not_false, gt_iff_lt, ge_iff_le, Int.not_lt, Int.not_le]
        repeat' (first | with_reducible refine And.intro ?_ ?_ | intro _)
        all_goals first | rfl | omega | assumption | trivial | (exfalso; simp_all; done) | skip
      · simp only [h2, if_false] at h
        have hj := hi h
        simp (disch := omega) only [wrG, sameK_iff, true_and, and_true, decide_eq_true_eq, decide_eq_false_iff_not, ne_eq, not_false_eq_true, Bool.false_eq_true, Bool.true_eq_false, false_implies, true_implies, Ty.dflt, reduceCtorEq, beq_iff_eq, bne_iff_ne, beq_eq_false_iff_ne, bne_eq_false_iff_eq, Bool.not_eq_true, Bool.not_eq_eq_eq_not, Bool.not_true, Bool.not_false, gt_iff_lt, ge_iff_le, Int.not_lt, Int.not_le]
        repeat' (first | with_reducible refine And.intro ?_ ?_ | intro _)
        all_goals first | rfl | omega | assumption | trivial | (exfalso; simp_all; done) | skip
    · simp only [h1, if_false] at h hi
      have hj := hi h
      simp (disch := omega) only [wrG, sameK_iff, true_and, and_true, decide_eq_true_eq, decide_eq_false_iff_not, ne_eq, not_false_eq_true, Bool.false_eq_true, Bool.true_eq_false, false_implies, true_implies, Ty.dflt, reduceCtorEq, beq_iff_eq, bne_iff_ne, beq_eq_false_iff_ne, bne_eq_false_iff_eq, Bool.not_eq_true, Bool.not_eq_eq_eq_not, Bool.not_true, Bool.not_false, gt_iff_lt, ge_iff_le, Int.not_lt, Int.not_le]
      repeat' (first | with_reducible refine And.intro ?_ ?_ | intro _)
      all_goals first | rfl | omega | assumption | trivial | (exfalso; simp_all; done) | skip

theorem e82_0 (S : List (Int × Bool × List Int)) (c : Int) (d : Bool) (hS : S.length ≤ 600) (hl : ∀ x ∈ S, x.2.2.length ≤ 300) (r : D × List (Option Row) × List Row) (m : Nat) : ∀ (s : Int), 0 ≤ s → s + m = S.length → r = (.agg [.v (.int .i64 (seatOf d c s (S.drop s.toNat)).1), .v (.int .i64 (seatOf d c s (S.drop s.toNat)).2)], [], []) → GetsK Tryd.prog Tryd.f82.results.toList [none] (KK q82) 0 r 0 (stOf 48 [0,1,2,6,7] [.sl false false SlT S, .v (.int .i64 c), .v (.bool d), .ptr 0 0 0, .v (.int .i64 s)] [.live (.box 61 [.v (.int .i64 0), .v (.int .i64 0)])]) := by
  induction m with
  | zero =>
    intro s s0 sm h
    rw [List.drop_eq_nil_of_le (by omega)] at h
    simp only [seatOf] at h
    subst h
    refine gets_vc spH (fun k => [[0,1,2,6,7],[0,1,2,6,7,8]].getD k []) (fun _ => []) 400 (.fork (.hd 1) .stop) (V := fun G R => (decide (s < (↑S.length : Int)) = true → SameK (KK q82 1) (KK q82 1) ∧ G 1 (stOf 48 [0, 1, 2, 6, 7, 8] [D.sl false false ((Ty.int IntKind.i64).prod (Ty.bool.prod (Ty.int IntKind.i64).sl)) S, D.v (Value.int IntKind.i64 c), D.v (Value.bool d), D.ptr 0 0 0, D.v (Value.int IntKind.i64 s), D.v (Value.int IntKind.i64 (0 : Int))] [Slot.live (Row.box 61 [D.v (Value.int IntKind.i64 (0 : Int)), D.v (Value.int IntKind.i64 (0 : Int))])])) ∧ (decide (s < (↑S.length : Int)) = false → R (D.agg [D.v (Value.int IntKind.i64 (-1 : Int)), D.v (Value.int IntKind.i64 (0 : Int))], [], []))) hmG (fun G R => by kernel_rfl) ?_
    simp (disch := omega) only [wrG, sameK_iff, true_and, and_true, decide_eq_true_eq, decide_eq_false_iff_not, ne_eq, not_false_eq_true, Bool.false_eq_true, Bool.true_eq_false, false_implies, true_implies, Ty.dflt, reduceCtorEq, beq_iff_eq, bne_iff_ne, beq_eq_false_iff_ne, bne_eq_false_iff_eq, Bool.not_eq_true, Bool.not_eq_eq_eq_not, Bool.not_true, Bool.not_false, gt_iff_lt, ge_iff_le, Int.not_lt, Int.not_le]
    repeat' (first | with_reducible refine And.intro ?_ ?_ | intro _)
    all_goals first | rfl | omega | assumption | trivial | (exfalso; simp_all; done) | skip
  | succ m ih =>
    intro s s0 sm h
    have hd := drop_at (xs := S) (i := s) (Ty.dflt (.prod (.int .i64) (.prod .bool (.sl (.int .i64))))) s0 (by omega)
    have hm : S.getD s.toNat (Ty.dflt (.prod (.int .i64) (.prod .bool (.sl (.int .i64))))) ∈ S := List.mem_of_mem_drop (i := s.toNat) (by rw [hd]; exact List.mem_cons_self)
    rw [hd] at h
    have hi := ih (s + 1) (by omega) (by omega)
    simp only [seatOf] at h
    have e1 := e82_1 S c s d _ r s0 (by omega) hS rfl (hl _ hm) _ 0 (by omega) (Int.zero_add _) (by
      simp only [show (0 : Int).toNat = 0 by rfl, List.drop_zero]
      split
      · rename_i k' hk
        rw [hk] at h
        exact h
      · rename_i hk
        rw [hk] at h
        exact hi h)
    refine gets_vc spH (fun k => [[0,1,2,6,7],[0,1,2,6,7,8]].getD k []) (fun _ => []) 400 (.fork (.hd 1) .stop) (V := fun G R => (decide (s < (↑S.length : Int)) = true → SameK (KK q82 1) (KK q82 1) ∧ G 1 (stOf 48 [0, 1, 2, 6, 7, 8] [D.sl false false ((Ty.int IntKind.i64).prod (Ty.bool.prod (Ty.int IntKind.i64).sl)) S, D.v (Value.int IntKind.i64 c), D.v (Value.bool d), D.ptr 0 0 0, D.v (Value.int IntKind.i64 s), D.v (Value.int IntKind.i64 (0 : Int))] [Slot.live (Row.box 61 [D.v (Value.int IntKind.i64 (0 : Int)), D.v (Value.int IntKind.i64 (0 : Int))])])) ∧ (decide (s < (↑S.length : Int)) = false → R (D.agg [D.v (Value.int IntKind.i64 (-1 : Int)), D.v (Value.int IntKind.i64 (0 : Int))], [], []))) hmG (fun G R => by kernel_rfl) ?_
    simp (disch := omega) only [wrG, sameK_iff, true_and, and_true, decide_eq_true_eq, decide_eq_false_iff_not, ne_eq, not_false_eq_true, Bool.false_eq_true, Bool.true_eq_false, false_implies, true_implies, Ty.dflt, reduceCtorEq, beq_iff_eq, bne_iff_ne, beq_eq_false_iff_ne, bne_eq_false_iff_eq, Bool.not_eq_true, Bool.not_eq_eq_eq_not, Bool.not_true, Bool.not_false, gt_iff_lt, ge_iff_le, Int.not_lt, Int.not_le]
    repeat' (first | with_reducible refine And.intro ?_ ?_ | intro _)
    all_goals first | rfl | omega | assumption | trivial | (exfalso; simp_all; done) | skip

theorem d82D (S : List (Int × Bool × List Int)) (c : Int) (d : Bool) (hS : S.length ≤ 600) (hl : ∀ x ∈ S, x.2.2.length ≤ 300) : Con Tryd.prog 82 [] [.sl false false SlT S, .v (.int .i64 c), .v (.bool d)] ((.agg [.v (.int .i64 (seatOf d c 0 S).1), .v (.int .i64 (seatOf d c 0 S).2)])) [] [] := by
  refine con_vc (how := [none]) (c := q82) (K := (KK q82)) spH (fun k => [[0,1,2,6,7],[0,1,2,6,7,8]].getD k []) (fun _ => []) 400 (.hd 0) (V := fun G R => SameK (KK q82 0) (KK q82 0) ∧ G 0 (stOf 48 [0, 1, 2, 6, 7] [D.sl false false ((Ty.int IntKind.i64).prod (Ty.bool.prod (Ty.int IntKind.i64).sl)) S, D.v (Value.int IntKind.i64 c), D.v (Value.bool d), D.ptr 0 0 0, D.v (Value.int IntKind.i64 (0 : Int))] [Slot.live (Row.box 61 [D.v (Value.int IntKind.i64 (0 : Int)), D.v (Value.int IntKind.i64 (0 : Int))])])) hmG Tryd.func82 (by kernel_rfl) (by kernel_rfl) (fun G R => by kernel_rfl) ?_
  try dsimp only
  have h := e82_0 S c d hS hl _ S.length 0 (by omega) (by omega) rfl
  simp only [show (0 : Int).toNat = 0 by rfl, List.drop_zero] at h
  simp (disch := omega) only [wrG, sameK_iff, true_and, and_true, decide_eq_true_eq, decide_eq_false_iff_not, ne_eq, not_false_eq_true, Bool.false_eq_true, Bool.true_eq_false, false_implies, true_implies, Ty.dflt, reduceCtorEq, beq_iff_eq, bne_iff_ne, beq_eq_false_iff_ne, bne_eq_false_iff_eq, Bool.not_eq_true, Bool.not_eq_eq_eq_not, Bool.not_true, Bool.not_false, gt_iff_lt, ge_iff_le, Int.not_lt, Int.not_le]
  repeat' (first | with_reducible refine And.intro ?_ ?_ | intro _)
  all_goals first | rfl | omega | assumption | trivial | (exfalso; simp_all; done) | skip
theorem take_next {A : List (Int × Int)} {i : Int} (i0 : 0 ≤ i) (il : i < A.length) : A.take (i + 1).toNat = A.take i.toNat ++ [sAt A i] := by
  rw [show (i + 1).toNat = i.toNat + 1 by omega, List.take_add_one]
  unfold sAt
  rw [List.getD_eq_getElem?_getD, List.getElem?_eq_getElem (by omega)]
  rfl

theorem e41D (g : Gr) (hc : checkF g = 0) (S : List (Int × Bool × List Int)) (hS : S = slotsF g) (hl : ∀ x ∈ S, x.2.2.length ≤ 300) (m : Nat) : ∀ (i : Int), 0 ≤ i → i + m = g.h * g.w → ∀ (A E : List (Int × Int)), A = (seatsF g).1.take i.toNat → E = (seatsF g).2.take i.toNat → GetsK Tryd.prog Tryd.f41.results.toList [none, none] (KK q41) 0 (.tup [.own 0 0 (seatsF g).1.length none, .own 1 0 (seatsF g).2.length none], [], [.data 61 SeT (seatsF g).1, .data 61 SeT (seatsF g).2]) 0 (stOf 36 [1,4,5,6,7] [.ptr 0 0 0, .own 1 0 A.length none, .own 2 0 E.length none, .own 3 0 S.length none, .v (.int .i64 i)] [.live (.box 46 [.v (.int .i64 g.h), .v (.int .i64 g.w), .sl false false .bool g.B, .sl false false .bool g.R, .sl false false .bool g.L]), .live (.data 61 SeT A), .live (.data 61 SeT E), .live (.data 50 SlT S)]) := by
  have hw := hw_in (chk0.1 hc).1 (chk0.1 hc).2.1
  have ew := hw_wrap (chk0.1 hc).1 (chk0.1 hc).2.1
  have sa := seats_are hc (c := 0) (by omega)
  have hsm : S.length ≤ 512 := by rw [hS]; exact slots_small g
  induction m with
  | zero =>
    intro i i0 im A E hA hE
    rw [List.take_of_length_le (by omega)] at hA hE
    refine gets_vc spH (fun _ => [1,4,5,6,7]) (fun k => if k = 0 then [⟨4, 61, SeT⟩, ⟨5, 61, SeT⟩] else [⟨2, 61, SeT⟩, ⟨3, 61, SeT⟩]) 400 (.fork (.hd 0) .stop) (V := fun G R => (decide (i < IntKind.i64.wrap (g.h * g.w)) = true → Con Tryd.prog 82 [] [D.sl false false ((Ty.int IntKind.i64).prod (Ty.bool.prod (Ty.int IntKind.i64).sl)) (List.take S.length (List.drop 0 S)), D.v (Value.int IntKind.i64 i), D.v (Value.bool false)] (D.agg [D.v (Value.int IntKind.i64 (seatOf false i (0 : Int) (List.take S.length (List.drop 0 S))).fst), D.v (Value.int IntKind.i64 (seatOf false i (0 : Int) (List.take S.length (List.drop 0 S))).snd)]) [] [] ∧ List.take S.length (List.drop 0 S) = List.take S.length (List.drop 0 S) ∧ Value.int IntKind.i64 i = Value.int IntKind.i64 i ∧ Value.bool false = Value.bool false ∧ roomy Tryd.prog 61 (A.length + 1) ∧ Con Tryd.prog 82 [] [D.sl false false ((Ty.int IntKind.i64).prod (Ty.bool.prod (Ty.int IntKind.i64).sl)) (List.take S.length (List.drop 0 S)), D.v (Value.int IntKind.i64 i), D.v (Value.bool true)] (D.agg [D.v (Value.int IntKind.i64 (seatOf true i (0 : Int) (List.take S.length (List.drop 0 S))).fst), D.v (Value.int IntKind.i64 (seatOf true i (0 : Int) (List.take S.length (List.drop 0 S))).snd)]) [] [] ∧ List.take S.length (List.drop 0 S) = List.take S.length (List.drop 0 S) ∧ Value.int IntKind.i64 i = Value.int IntKind.i64 i ∧ Value.bool true = Value.bool true ∧ roomy Tryd.prog 61 (E.length + 1) ∧ SameK (KK q41 0) (KK q41 0) ∧ G 0 (stOf 36 [1, 4, 5, 6, 7] [D.ptr 0 0 0, D.own 1 0 (A.length + 1) none, D.own 2 0 (E.length + 1) none, D.own 3 0 S.length none, D.v (Value.int IntKind.i64 (IntKind.i64.wrap (i + (1 : Int))))] [Slot.live (Row.box 46 [D.v (Value.int IntKind.i64 g.h), D.v (Value.int IntKind.i64 g.w), D.sl false false Ty.bool g.B, D.sl false false Ty.bool g.R, D.sl false false Ty.bool g.L]), Slot.live (Row.data 61 ((Ty.int IntKind.i64).prod (Ty.int IntKind.i64)) (List.take A.length (List.drop 0 A) ++ List.take 1 (List.drop 0 [((seatOf false i (0 : Int) (List.take S.length (List.drop 0 S))).fst, (seatOf false i (0 : Int) (List.take S.length (List.drop 0 S))).snd)]))), Slot.live (Row.data 61 ((Ty.int IntKind.i64).prod (Ty.int IntKind.i64)) (List.take E.length (List.drop 0 E) ++ List.take 1 (List.drop 0 [((seatOf true i (0 : Int) (List.take S.length (List.drop 0 S))).fst, (seatOf true i (0 : Int) (List.take S.length (List.drop 0 S))).snd)]))), Slot.live (Row.data 50 ((Ty.int IntKind.i64).prod (Ty.bool.prod (Ty.int IntKind.i64).sl)) S)])) ∧ (decide (i < IntKind.i64.wrap (g.h * g.w)) = false → R (D.tup [D.own 0 0 A.length none, D.own 1 0 E.length none], [], [Row.data 61 ((Ty.int IntKind.i64).prod (Ty.int IntKind.i64)) A, Row.data 61 ((Ty.int IntKind.i64).prod (Ty.int IntKind.i64)) E]))) hmG (fun G R => by kernel_rfl) ?_
    subst hA hE
    rw [ew]
    simp (disch := omega) only [wrG, sameK_iff, true_and, and_true, decide_eq_true_eq, decide_eq_false_iff_not, ne_eq, not_false_eq_true, Bool.false_eq_true, Bool.true_eq_false, false_implies, true_implies, Ty.dflt, reduceCtorEq, beq_iff_eq, bne_iff_ne, beq_eq_false_iff_ne, bne_eq_false_iff_eq, Bool.not_eq_true, Bool.not_eq_eq_eq_not, Bool.not_true, Bool.not_false, gt_iff_lt, ge_iff_le, Int.not_lt, Int.not_le]
    repeat' (first | with_reducible refine And.intro ?_ ?_ | intro _)
    all_goals first | rfl | omega | assumption | trivial | (exfalso; simp_all; done) | skip
  | succ m ih =>
    intro i i0 im A E hA hE
    have so := seatOf_seats hc i0
    rw [← hS] at so
    have cA := d82D S i false (by omega) hl
    have cE := d82D S i true (by omega) hl
    rw [so.1] at cA
    rw [so.2] at cE
    have hx := ih (i + 1) (by omega) (by omega) (A ++ [sAt (seatsF g).1 i]) (E ++ [sAt (seatsF g).2 i]) (by rw [hA, take_next i0 (by omega)]) (by rw [hE, take_next i0 (by omega)])
    simp only [List.length_append, List.length_cons, List.length_nil, Nat.zero_add] at hx
    have lA : A.length ≤ 300 := by rw [hA, List.length_take]; omega
    have lE : E.length ≤ 300 := by rw [hE, List.length_take]; omega
    refine gets_vc spH (fun _ => [1,4,5,6,7]) (fun k => if k = 0 then [⟨4, 61, SeT⟩, ⟨5, 61, SeT⟩] else [⟨2, 61, SeT⟩, ⟨3, 61, SeT⟩]) 400 (.fork (.hd 0) .stop) (V := fun G R => (decide (i < IntKind.i64.wrap (g.h * g.w)) = true → Con Tryd.prog 82 [] [D.sl false false ((Ty.int IntKind.i64).prod (Ty.bool.prod (Ty.int IntKind.i64).sl)) (List.take S.length (List.drop 0 S)), D.v (Value.int IntKind.i64 i), D.v (Value.bool false)] (D.agg [D.v (Value.int IntKind.i64 (seatOf false i (0 : Int) (List.take S.length (List.drop 0 S))).fst), D.v (Value.int IntKind.i64 (seatOf false i (0 : Int) (List.take S.length (List.drop 0 S))).snd)]) [] [] ∧ List.take S.length (List.drop 0 S) = List.take S.length (List.drop 0 S) ∧ Value.int IntKind.i64 i = Value.int IntKind.i64 i ∧ Value.bool false = Value.bool false ∧ roomy Tryd.prog 61 (A.length + 1) ∧ Con Tryd.prog 82 [] [D.sl false false ((Ty.int IntKind.i64).prod (Ty.bool.prod (Ty.int IntKind.i64).sl)) (List.take S.length (List.drop 0 S)), D.v (Value.int IntKind.i64 i), D.v (Value.bool true)] (D.agg [D.v (Value.int IntKind.i64 (seatOf true i (0 : Int) (List.take S.length (List.drop 0 S))).fst), D.v (Value.int IntKind.i64 (seatOf true i (0 : Int) (List.take S.length (List.drop 0 S))).snd)]) [] [] ∧ List.take S.length (List.drop 0 S) = List.take S.length (List.drop 0 S) ∧ Value.int IntKind.i64 i = Value.int IntKind.i64 i ∧ Value.bool true = Value.bool true ∧ roomy Tryd.prog 61 (E.length + 1) ∧ SameK (KK q41 0) (KK q41 0) ∧ G 0 (stOf 36 [1, 4, 5, 6, 7] [D.ptr 0 0 0, D.own 1 0 (A.length + 1) none, D.own 2 0 (E.length + 1) none, D.own 3 0 S.length none, D.v (Value.int IntKind.i64 (IntKind.i64.wrap (i + (1 : Int))))] [Slot.live (Row.box 46 [D.v (Value.int IntKind.i64 g.h), D.v (Value.int IntKind.i64 g.w), D.sl false false Ty.bool g.B, D.sl false false Ty.bool g.R, D.sl false false Ty.bool g.L]), Slot.live (Row.data 61 ((Ty.int IntKind.i64).prod (Ty.int IntKind.i64)) (List.take A.length (List.drop 0 A) ++ List.take 1 (List.drop 0 [((seatOf false i (0 : Int) (List.take S.length (List.drop 0 S))).fst, (seatOf false i (0 : Int) (List.take S.length (List.drop 0 S))).snd)]))), Slot.live (Row.data 61 ((Ty.int IntKind.i64).prod (Ty.int IntKind.i64)) (List.take E.length (List.drop 0 E) ++ List.take 1 (List.drop 0 [((seatOf true i (0 : Int) (List.take S.length (List.drop 0 S))).fst, (seatOf true i (0 : Int) (List.take S.length (List.drop 0 S))).snd)]))), Slot.live (Row.data 50 ((Ty.int IntKind.i64).prod (Ty.bool.prod (Ty.int IntKind.i64).sl)) S)])) ∧ (decide (i < IntKind.i64.wrap (g.h * g.w)) = false → R (D.tup [D.own 0 0 A.length none, D.own 1 0 E.length none], [], [Row.data 61 ((Ty.int IntKind.i64).prod (Ty.int IntKind.i64)) A, Row.data 61 ((Ty.int IntKind.i64).prod (Ty.int IntKind.i64)) E]))) hmG (fun G R => by kernel_rfl) ?_
    simp only [ew, take_len, so.1, so.2]
    simp (disch := omega) only [wrG, sameK_iff, true_and, and_true, decide_eq_true_eq, decide_eq_false_iff_not, ne_eq, not_false_eq_true, Bool.false_eq_true, Bool.true_eq_false, false_implies, true_implies, Ty.dflt, reduceCtorEq, beq_iff_eq, bne_iff_ne, beq_eq_false_iff_ne, bne_eq_false_iff_eq, Bool.not_eq_true, Bool.not_eq_eq_eq_not, Bool.not_true, Bool.not_false, gt_iff_lt, ge_iff_le, Int.not_lt, Int.not_le]
    repeat' (first | with_reducible refine And.intro ?_ ?_ | intro _)
    all_goals first | rfl | omega | assumption | trivial | exact room104 (by omega) | (exfalso; simp_all; done) | skip

theorem d41D (g : Gr)  : Con Tryd.prog 41 [] [g.d] ((.tup [.own 0 0 (seatsF g).1.length none, .own 1 0 (seatsF g).2.length none])) [] [.data 61 SeT (seatsF g).1, .data 61 SeT (seatsF g).2] := by
  refine con_vc (how := [none, none]) (c := q41) (K := (KK q41)) spH (fun _ => [1,4,5,6,7]) (fun k => if k = 0 then [⟨4, 61, SeT⟩, ⟨5, 61, SeT⟩] else [⟨2, 61, SeT⟩, ⟨3, 61, SeT⟩]) 400 (.fork .stop (.hd 0)) (V := fun G R => Con Tryd.prog 80 [] [D.agg [D.v (Value.int IntKind.i64 g.h), D.v (Value.int IntKind.i64 g.w), D.sl false false Ty.bool g.B, D.sl false false Ty.bool g.R, D.sl false false Ty.bool g.L]] (D.v (Value.int IntKind.i64 (checkF g))) [] [] ∧ Value.int IntKind.i64 g.h = Value.int IntKind.i64 g.h ∧ Value.int IntKind.i64 g.w = Value.int IntKind.i64 g.w ∧ g.B = g.B ∧ g.R = g.R ∧ g.L = g.L ∧ ((checkF g != (0 : Int)) = true → R (D.tup [D.own 0 0 0 none, D.own 1 0 0 none], [], [Row.data 61 ((Ty.int IntKind.i64).prod (Ty.int IntKind.i64)) [], Row.data 61 ((Ty.int IntKind.i64).prod (Ty.int IntKind.i64)) []])) ∧ ((checkF g != (0 : Int)) = false → Con Tryd.prog 38 [] [D.agg [D.v (Value.int IntKind.i64 g.h), D.v (Value.int IntKind.i64 g.w), D.sl false false Ty.bool g.B, D.sl false false Ty.bool g.R, D.sl false false Ty.bool g.L]] (D.own 0 0 (slotsF g).length none) [] [Row.data 50 ((Ty.int IntKind.i64).prod (Ty.bool.prod (Ty.int IntKind.i64).sl)) (slotsF g)] ∧ Value.int IntKind.i64 g.h = Value.int IntKind.i64 g.h ∧ Value.int IntKind.i64 g.w = Value.int IntKind.i64 g.w ∧ g.B = g.B ∧ g.R = g.R ∧ g.L = g.L ∧ SameK (KK q41 0) (KK q41 0) ∧ G 0 (stOf 36 [1, 4, 5, 6, 7] [D.ptr 0 0 0, D.own 1 0 0 none, D.own 2 0 0 none, D.own 3 0 (slotsF g).length none, D.v (Value.int IntKind.i64 (0 : Int))] [Slot.live (Row.box 46 [D.v (Value.int IntKind.i64 g.h), D.v (Value.int IntKind.i64 g.w), D.sl false false Ty.bool g.B, D.sl false false Ty.bool g.R, D.sl false false Ty.bool g.L]), Slot.live (Row.data 61 ((Ty.int IntKind.i64).prod (Ty.int IntKind.i64)) []), Slot.live (Row.data 61 ((Ty.int IntKind.i64).prod (Ty.int IntKind.i64)) []), Slot.live (Row.data 50 ((Ty.int IntKind.i64).prod (Ty.bool.prod (Ty.int IntKind.i64).sl)) (slotsF g))]))) hmG Tryd.func41 (by kernel_rfl) (by kernel_rfl) (fun G R => by kernel_rfl) ?_
  try dsimp only
  have c := d44 g
  have c2 := d100 g
  by_cases hc : checkF g = 0
  · have hw := hw_in (chk0.1 hc).1 (chk0.1 hc).2.1
    have hx := e41D g hc (slotsF g) rfl (fun x hx => by
      have es : slotsF g = slotsFrom g (g.h * g.w).toNat 0 0 := if_pos hc
      rw [es] at hx
      have := (slots_open _ _ _ x hx).1
      omega) (g.h * g.w).toNat 0 (by omega) (by omega) [] [] (by simp) (by simp)
    rw [hc] at c ⊢
    simp (disch := omega) only [wrG, sameK_iff, true_and, and_true, decide_eq_true_eq, decide_eq_false_iff_not, ne_eq, not_false_eq_true, Bool.false_eq_true, Bool.true_eq_false, false_implies, true_implies, Ty.dflt, reduceCtorEq, beq_iff_eq, bne_iff_ne, beq_eq_false_iff_ne, bne_eq_false_iff_eq, Bool.not_eq_true, Bool.not_eq_eq_eq_not, Bool.not_true, Bool.not_false, gt_iff_lt, ge_iff_le, Int.not_lt, Int.not_le]
    repeat' (first | with_reducible refine And.intro ?_ ?_ | intro _)
    all_goals first | rfl | omega | assumption | trivial | (exfalso; simp_all; done) | skip
  · have e : seatsF g = ([], []) := if_neg hc
    rw [e]
    simp (disch := omega) only [wrG, sameK_iff, true_and, and_true, decide_eq_true_eq, decide_eq_false_iff_not, ne_eq, not_false_eq_true, Bool.false_eq_true, Bool.true_eq_false, false_implies, true_implies, Ty.dflt, reduceCtorEq, beq_iff_eq, bne_iff_ne, beq_eq_false_iff_ne, bne_eq_false_iff_eq, Bool.not_eq_true, Bool.not_eq_eq_eq_not, Bool.not_true, Bool.not_false, gt_iff_lt, ge_iff_le, Int.not_lt, Int.not_le]
    repeat' (first | with_reducible refine And.intro ?_ ?_ | intro _)
    all_goals first | rfl | omega | assumption | trivial | (exfalso; simp_all; done) | skip

end Go.Proofs.YtnakmganodkliaaDoorAm
