/- The contracts of the reference's turns: what each answers, for any numbers. -/
import Derived.Test.YtnakmganodkliaaTnT
set_option linter.unusedVariables false
set_option linter.unusedSimpArgs false
set_option maxRecDepth 10000
namespace Go.Proofs.YtnakmganodkliaaAm
open Go


theorem L26 (k : Int) (hk : 0 ≤ k ∧ k < 8) (m : Nat) : ∀ (h w r c q : Int), (1 ≤ h ∧ h ≤ 16) → (1 ≤ w ∧ w ≤ 16) → (0 ≤ r ∧ r < h) → (0 ≤ c ∧ c < w) → 0 ≤ q → k % 4 - q = m →
    Gets Try.prog 0 k26 (st26 h w k r c q) (Ends Try.prog 0 Try.f26.results.toList [none, none] (.tup [.v (.int .i64 (loopF m h w r c)), .v (.int .i64 0)], [], [])) := by
  have e1 : k.tmod 4 = k % 4 := Int.tmod_eq_emod_of_nonneg hk.1
  induction m with
  | zero =>
    intro h w r c q h1 w1 r1 c1 q1 hm'
    have m1 := mul_in (a := r) ⟨r1.1, by omega⟩ w1
    have e : ((.tup [.v (.int .i64 (loopF 0 h w r c)), .v (.int .i64 0)] : D), ([] : List (Option Row)), ([] : List Row)) = (D.tup [D.v (Value.int IntKind.i64 (IntKind.i64.wrap (IntKind.i64.wrap (r * w) + c))), D.v (Value.int IntKind.i64 (0 : Int))], [], []) := by simp (disch := omega) only [wr]; simp [loopF]
    rw [e]
    exact (Gets.last (sp := sp) (f := 300) (ch := [.f]) (ps := [(4 : Int) ≠ (0 : Int), decide (q < k.tmod (4 : Int)) = false]) hm (by kernel_rfl) (by simp only [All, and_true]; and_intros <;> (first | rfl | (simp [*]; done) | (simp; omega) | (simp [*]; omega))))
  | succ m ih =>
    intro h w r c q h1 w1 r1 c1 q1 hm'
    refine (Gets.path (sp := sp) (f := 300) (ch := [.t]) (keep := [0,1,3,10,11,12]) (k' := k26) (s' := (st26 w h k c (IntKind.i64.wrap (IntKind.i64.wrap (h - 1) - r)) (IntKind.i64.wrap (q + 1)))) (ps := [(4 : Int) ≠ (0 : Int), decide (q < k.tmod (4 : Int)) = true]) hm (by kernel_rfl) (by simp only [All, and_true]; and_intros <;> (first | rfl | (simp [*]; done) | (simp; omega) | (simp [*]; omega))) ?_)
    simp (disch := omega) only [wr]
    exact ih w h c (h - 1 - r) (q + 1) w1 h1 c1 (by omega) (by omega) (by omega)

theorem c26 (h w i k : Int)  : Con Try.prog 26 [] [.v (.int .i64 h), .v (.int .i64 w), .v (.int .i64 i), .v (.int .i64 k)] (.tup [.v (.int .i64 (bigF h w i k).1), .v (.int .i64 (bigF h w i k).2)]) [] [] := by
  refine con_of (how := [none, none]) (c := b26) Try.func26 (by kernel_rfl) (by kernel_rfl) ?_
  by_cases b1 : isB k = true
  rotate_left
  · have b0 : isB k = false := by simpa using b1
    have k0 : ¬ (0 ≤ k ∧ k < 8) := fun h => b1 (isB_iff.2 h)
    clear b1
    by_cases k1 : k < 0
    ·
      have e : ((.tup [.v (.int .i64 (bigF h w i k).1), .v (.int .i64 (bigF h w i k).2)] : D), ([] : List (Option Row)), ([] : List Row)) = (D.tup [D.v (Value.int IntKind.i64 (0 : Int)), D.v (Value.int IntKind.i64 (60 : Int))], [], []) := by simp [bigF, *]
      rw [e]
      exact (Gets.last (sp := sp) (f := 300) (ch := [.g [(2,true)],.t]) (ps := [decide (k < (0 : Int)) = true, true = true]) hm (by kernel_rfl) (by simp only [All, and_true]; and_intros <;> (first | rfl | (simp [*]; done) | (simp; omega) | (simp [*]; omega))))
    ·
      have k2 : k > 7 := by omega
      have e : ((.tup [.v (.int .i64 (bigF h w i k).1), .v (.int .i64 (bigF h w i k).2)] : D), ([] : List (Option Row)), ([] : List Row)) = (D.tup [D.v (Value.int IntKind.i64 (0 : Int)), D.v (Value.int IntKind.i64 (60 : Int))], [], []) := by simp [bigF, *]
      rw [e]
      exact (Gets.last (sp := sp) (f := 300) (ch := [.g [(2,false)],.t]) (ps := [decide (k < (0 : Int)) = false, (if false = true then true else decide (k > (7 : Int))) = true]) hm (by kernel_rfl) (by simp only [All, and_true]; and_intros <;> (first | rfl | (simp [*]; done) | (simp; omega) | (simp [*]; omega))))
  have hk := isB_iff.1 b1
  have hk0 : ¬ k < 0 := by omega
  have hk7 : ¬ k > 7 := by omega
  by_cases a1 : h < 1
  ·
    have e : ((.tup [.v (.int .i64 (bigF h w i k).1), .v (.int .i64 (bigF h w i k).2)] : D), ([] : List (Option Row)), ([] : List Row)) = (D.tup [D.v (Value.int IntKind.i64 (0 : Int)), D.v (Value.int IntKind.i64 (50 : Int))], [], []) := by simp [bigF, *]
    rw [e]
    exact (Gets.last (sp := sp) (f := 300) (ch := [.g [(2,false)],.f,.g [(2,true),(6,true),(10,true)],.t]) (ps := [decide (k < (0 : Int)) = false, (if false = true then true else decide (k > (7 : Int))) = false, decide (h < (1 : Int)) = true, true = true, true = true, true = true]) hm (by kernel_rfl) (by simp only [All, and_true]; and_intros <;> (first | rfl | (simp [*]; done) | (simp; omega) | (simp [*]; omega))))
  by_cases a2 : h > 16
  ·
    have e : ((.tup [.v (.int .i64 (bigF h w i k).1), .v (.int .i64 (bigF h w i k).2)] : D), ([] : List (Option Row)), ([] : List Row)) = (D.tup [D.v (Value.int IntKind.i64 (0 : Int)), D.v (Value.int IntKind.i64 (50 : Int))], [], []) := by simp [bigF, *]
    rw [e]
    exact (Gets.last (sp := sp) (f := 300) (ch := [.g [(2,false)],.f,.g [(2,false),(6,true),(10,true)],.t]) (ps := [decide (k < (0 : Int)) = false, (if false = true then true else decide (k > (7 : Int))) = false, decide (h < (1 : Int)) = false, (if false = true then true else decide (h > (16 : Int))) = true, true = true, true = true]) hm (by kernel_rfl) (by simp only [All, and_true]; and_intros <;> (first | rfl | (simp [*]; done) | (simp; omega) | (simp [*]; omega))))
  by_cases a3 : w < 1
  ·
    have e : ((.tup [.v (.int .i64 (bigF h w i k).1), .v (.int .i64 (bigF h w i k).2)] : D), ([] : List (Option Row)), ([] : List Row)) = (D.tup [D.v (Value.int IntKind.i64 (0 : Int)), D.v (Value.int IntKind.i64 (50 : Int))], [], []) := by simp [bigF, *]
    rw [e]
    exact (Gets.last (sp := sp) (f := 300) (ch := [.g [(2,false)],.f,.g [(2,false),(6,false),(10,true)],.t]) (ps := [decide (k < (0 : Int)) = false, (if false = true then true else decide (k > (7 : Int))) = false, decide (h < (1 : Int)) = false, (if false = true then true else decide (h > (16 : Int))) = false, (if false = true then true else decide (w < (1 : Int))) = true, true = true]) hm (by kernel_rfl) (by simp only [All, and_true]; and_intros <;> (first | rfl | (simp [*]; done) | (simp; omega) | (simp [*]; omega))))
  by_cases a4 : w > 16
  ·
    have e : ((.tup [.v (.int .i64 (bigF h w i k).1), .v (.int .i64 (bigF h w i k).2)] : D), ([] : List (Option Row)), ([] : List Row)) = (D.tup [D.v (Value.int IntKind.i64 (0 : Int)), D.v (Value.int IntKind.i64 (50 : Int))], [], []) := by simp [bigF, *]
    rw [e]
    exact (Gets.last (sp := sp) (f := 300) (ch := [.g [(2,false)],.f,.g [(2,false),(6,false),(10,false)],.t]) (ps := [decide (k < (0 : Int)) = false, (if false = true then true else decide (k > (7 : Int))) = false, decide (h < (1 : Int)) = false, (if false = true then true else decide (h > (16 : Int))) = false, (if false = true then true else decide (w < (1 : Int))) = false, (if false = true then true else decide (w > (16 : Int))) = true]) hm (by kernel_rfl) (by simp only [All, and_true]; and_intros <;> (first | rfl | (simp [*]; done) | (simp; omega) | (simp [*]; omega))))
  have h1 : 1 ≤ h ∧ h ≤ 16 := by omega
  have w1 : 1 ≤ w ∧ w ≤ 16 := by omega
  have hwp : 0 ≤ h * w := Int.mul_nonneg (by omega) (by omega)
  have e3 : IntKind.i64.wrap (h * w) = h * w := wr (by omega) (by have := mul_le h1 w1; omega)
  have a5 : ¬ (h < 1 ∨ h > 16 ∨ w < 1 ∨ w > 16) := by omega
  by_cases a6 : i < 0
  ·
    have e : ((.tup [.v (.int .i64 (bigF h w i k).1), .v (.int .i64 (bigF h w i k).2)] : D), ([] : List (Option Row)), ([] : List Row)) = (D.tup [D.v (Value.int IntKind.i64 (0 : Int)), D.v (Value.int IntKind.i64 (51 : Int))], [], []) := by simp only [bigF, b1, if_true, if_neg a5]; simp [*]
    rw [e]
    exact (Gets.last (sp := sp) (f := 300) (ch := [.g [(2,false)],.f,.g [(2,false),(6,false),(10,false)],.f,.g [(2,true)],.t]) (ps := [decide (k < (0 : Int)) = false, (if false = true then true else decide (k > (7 : Int))) = false, decide (h < (1 : Int)) = false, (if false = true then true else decide (h > (16 : Int))) = false, (if false = true then true else decide (w < (1 : Int))) = false, (if false = true then true else decide (w > (16 : Int))) = false, decide (i < (0 : Int)) = true, true = true]) hm (by kernel_rfl) (by simp only [All, and_true]; and_intros <;> (first | rfl | (simp [*]; done) | (simp; omega) | (simp [*]; omega))))
  by_cases a7 : i ≥ h * w
  ·
    have e : ((.tup [.v (.int .i64 (bigF h w i k).1), .v (.int .i64 (bigF h w i k).2)] : D), ([] : List (Option Row)), ([] : List Row)) = (D.tup [D.v (Value.int IntKind.i64 (0 : Int)), D.v (Value.int IntKind.i64 (51 : Int))], [], []) := by simp only [bigF, b1, if_true, if_neg a5]; simp [*]
    rw [e]
    exact (Gets.last (sp := sp) (f := 300) (ch := [.g [(2,false)],.f,.g [(2,false),(6,false),(10,false)],.f,.g [(2,false)],.t]) (ps := [decide (k < (0 : Int)) = false, (if false = true then true else decide (k > (7 : Int))) = false, decide (h < (1 : Int)) = false, (if false = true then true else decide (h > (16 : Int))) = false, (if false = true then true else decide (w < (1 : Int))) = false, (if false = true then true else decide (w > (16 : Int))) = false, decide (i < (0 : Int)) = false, (if false = true then true else decide (i ≥ IntKind.i64.wrap (h * w))) = true]) hm (by kernel_rfl) (by simp only [All, and_true]; and_intros <;> (first | rfl | (simp [*]; done) | (simp; omega) | (simp [*]; omega))))
  have i1 : 0 ≤ i ∧ i < h * w := by omega
  have ev : bigF h w i k = (placeF h w i k, 0) := by simp only [bigF, b1, if_true, if_neg a5]; simp [*]
  rw [ev, ← loop_place hk]
  have hr := row_lt h1 w1 i1
  have hc := col_lt (i := i) w1
  have hi : i ≤ 256 := by have := mul_le h1 w1; omega
  have e1 : IntKind.i64.wrap (i.tdiv w) = i / w := by rw [Int.tdiv_eq_ediv_of_nonneg i1.1]; exact wr (by omega) (by omega)
  have e2 : i.tmod w = i % w := Int.tmod_eq_emod_of_nonneg i1.1
  by_cases a8 : k > 3
  ·
    refine (Gets.path (sp := sp) (f := 300) (ch := [.g [(2,false)],.f,.g [(2,false),(6,false),(10,false)],.f,.g [(2,false)],.f,.t]) (keep := [0,1,3,10,11,12]) (k' := k26) (s' := (st26 h w k (IntKind.i64.wrap (i.tdiv w)) (IntKind.i64.wrap (IntKind.i64.wrap (w - 1) - i.tmod w)) 0)) (ps := [decide (k < (0 : Int)) = false, (if false = true then true else decide (k > (7 : Int))) = false, decide (h < (1 : Int)) = false, (if false = true then true else decide (h > (16 : Int))) = false, (if false = true then true else decide (w < (1 : Int))) = false, (if false = true then true else decide (w > (16 : Int))) = false, decide (i < (0 : Int)) = false, (if false = true then true else decide (i ≥ IntKind.i64.wrap (h * w))) = false, w ≠ (0 : Int), w ≠ (0 : Int), decide (k > (3 : Int)) = true]) hm (by kernel_rfl) (by simp only [All, and_true]; and_intros <;> (first | rfl | (simp [*]; done) | (simp; omega) | (simp [*]; omega))) ?_)
    rw [e1, e2]
    (try simp (disch := omega) only [wr])
    simp only [a8, if_true, if_false]
    exact L26 k hk _ h w _ _ 0 h1 w1 hr (by omega) (by omega) (by omega)
  ·
    refine (Gets.path (sp := sp) (f := 300) (ch := [.g [(2,false)],.f,.g [(2,false),(6,false),(10,false)],.f,.g [(2,false)],.f,.f]) (keep := [0,1,3,10,11,12]) (k' := k26) (s' := (st26 h w k (IntKind.i64.wrap (i.tdiv w)) (i.tmod w) 0)) (ps := [decide (k < (0 : Int)) = false, (if false = true then true else decide (k > (7 : Int))) = false, decide (h < (1 : Int)) = false, (if false = true then true else decide (h > (16 : Int))) = false, (if false = true then true else decide (w < (1 : Int))) = false, (if false = true then true else decide (w > (16 : Int))) = false, decide (i < (0 : Int)) = false, (if false = true then true else decide (i ≥ IntKind.i64.wrap (h * w))) = false, w ≠ (0 : Int), w ≠ (0 : Int), decide (k > (3 : Int)) = false]) hm (by kernel_rfl) (by simp only [All, and_true]; and_intros <;> (first | rfl | (simp [*]; done) | (simp; omega) | (simp [*]; omega))) ?_)
    rw [e1, e2]
    (try simp (disch := omega) only [wr])
    simp only [a8, if_true, if_false]
    exact L26 k hk _ h w _ _ 0 h1 w1 hr (by omega) (by omega) (by omega)

end Go.Proofs.YtnakmganodkliaaAm
