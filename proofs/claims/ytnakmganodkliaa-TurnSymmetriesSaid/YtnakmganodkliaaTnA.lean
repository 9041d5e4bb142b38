/- The contracts of package turn's small functions: what each answers, for the numbers that it may be given. -/
import Derived.Test.YtnakmganodkliaaTnS
set_option linter.unusedVariables false
set_option linter.unusedSimpArgs false
set_option maxRecDepth 10000
namespace Go.Proofs.YtnakmganodkliaaAm
open Go


theorem c78 (k : Int)  : Con Try.prog 78 [] [.v (.int .i64 k)] (.v (.bool (isB k))) [] [] := by
  refine con_of (how := [none]) (c := b78) Try.func78 (by kernel_rfl) (by kernel_rfl) ?_
  by_cases h : 0 ≤ k
  ·
    have e : ((.v (.bool (isB k)) : D), ([] : List (Option Row)), ([] : List Row)) = (D.v (Value.bool (if true = true then decide (k < (8 : Int)) else false)), [], []) := by simp [isB, h]
    rw [e]
    exact (Gets.last (sp := sp) (f := 300) (ch := [.g [(2,true)]]) (ps := [decide (k ≥ (0 : Int)) = true]) hm (by kernel_rfl) (by simp only [All, and_true]; and_intros <;> (first | rfl | (simp [*]; done) | (simp; omega))))
  ·
    have e : ((.v (.bool (isB k)) : D), ([] : List (Option Row)), ([] : List Row)) = (D.v (Value.bool false), [], []) := by simp [isB, h]
    rw [e]
    exact (Gets.last (sp := sp) (f := 300) (ch := [.g [(2,false)]]) (ps := [decide (k ≥ (0 : Int)) = false]) hm (by kernel_rfl) (by simp only [All, and_true]; and_intros <;> (first | rfl | (simp [*]; done) | (simp; omega))))

theorem c118 (h w r c k : Int) (h1 : 1 ≤ h ∧ h ≤ 16) (w1 : 1 ≤ w ∧ w ≤ 16) (r1 : 0 ≤ r ∧ r < h) (c1 : 0 ≤ c ∧ c < w) : Con Try.prog 118 [] [.v (.int .i64 h), .v (.int .i64 w), .agg [.v (.int .i64 r), .v (.int .i64 c)], .v (.int .i64 k)] (.agg [.v (.int .i64 (laidF h w r c k).1), .v (.int .i64 (laidF h w r c k).2)]) [] [] := by
  refine con_of (how := [none]) (c := b118) Try.func118 (by kernel_rfl) (by kernel_rfl) ?_
  by_cases k3 : k > 3
  ·
    by_cases q1 : k.tmod 4 = 1
    ·
      have e : ((.agg [.v (.int .i64 (laidF h w r c k).1), .v (.int .i64 (laidF h w r c k).2)] : D), ([] : List (Option Row)), ([] : List Row)) = (D.agg [D.v (Value.int IntKind.i64 (IntKind.i64.wrap (IntKind.i64.wrap (w - (1 : Int)) - c))), D.v (Value.int IntKind.i64 (IntKind.i64.wrap (IntKind.i64.wrap (h - (1 : Int)) - r)))], [], []) := by (try simp (disch := omega) only [wr]); simp [laidF, rot, *]
      rw [e]
      exact (Gets.last (sp := sp) (f := 300) (ch := [.t,.t]) (ps := [(0 : Int) ≤ (0 : Int), (0 : Int) < ↑(2 : Nat), (0 : Int) ≤ (1 : Int), (1 : Int) < ↑(2 : Nat), decide (k > (3 : Int)) = true, (4 : Int) ≠ (0 : Int), (k.tmod (4 : Int) == (1 : Int)) = true]) hm (by kernel_rfl) (by simp only [All, and_true]; and_intros <;> (first | rfl | (simp [*]; done) | (simp; omega))))
    by_cases q2 : k.tmod 4 = 2
    ·
      have e : ((.agg [.v (.int .i64 (laidF h w r c k).1), .v (.int .i64 (laidF h w r c k).2)] : D), ([] : List (Option Row)), ([] : List Row)) = (D.agg [D.v (Value.int IntKind.i64 (IntKind.i64.wrap (IntKind.i64.wrap (h - (1 : Int)) - r))), D.v (Value.int IntKind.i64 (IntKind.i64.wrap (IntKind.i64.wrap (w - (1 : Int)) - IntKind.i64.wrap (IntKind.i64.wrap (w - (1 : Int)) - c))))], [], []) := by (try simp (disch := omega) only [wr]); simp [laidF, rot, *]
      rw [e]
      exact (Gets.last (sp := sp) (f := 300) (ch := [.t,.f,.t]) (ps := [(0 : Int) ≤ (0 : Int), (0 : Int) < ↑(2 : Nat), (0 : Int) ≤ (1 : Int), (1 : Int) < ↑(2 : Nat), decide (k > (3 : Int)) = true, (4 : Int) ≠ (0 : Int), (k.tmod (4 : Int) == (1 : Int)) = false, (k.tmod (4 : Int) == (2 : Int)) = true]) hm (by kernel_rfl) (by simp only [All, and_true]; and_intros <;> (first | rfl | (simp [*]; done) | (simp; omega))))
    by_cases q3 : k.tmod 4 = 3
    ·
      have e : ((.agg [.v (.int .i64 (laidF h w r c k).1), .v (.int .i64 (laidF h w r c k).2)] : D), ([] : List (Option Row)), ([] : List Row)) = (D.agg [D.v (Value.int IntKind.i64 (IntKind.i64.wrap (IntKind.i64.wrap (w - (1 : Int)) - IntKind.i64.wrap (IntKind.i64.wrap (w - (1 : Int)) - c)))), D.v (Value.int IntKind.i64 r)], [], []) := by (try simp (disch := omega) only [wr]); simp [laidF, rot, *]
      rw [e]
      exact (Gets.last (sp := sp) (f := 300) (ch := [.t,.f,.f,.t]) (ps := [(0 : Int) ≤ (0 : Int), (0 : Int) < ↑(2 : Nat), (0 : Int) ≤ (1 : Int), (1 : Int) < ↑(2 : Nat), decide (k > (3 : Int)) = true, (4 : Int) ≠ (0 : Int), (k.tmod (4 : Int) == (1 : Int)) = false, (k.tmod (4 : Int) == (2 : Int)) = false, (k.tmod (4 : Int) == (3 : Int)) = true]) hm (by kernel_rfl) (by simp only [All, and_true]; and_intros <;> (first | rfl | (simp [*]; done) | (simp; omega))))
    ·
      have e : ((.agg [.v (.int .i64 (laidF h w r c k).1), .v (.int .i64 (laidF h w r c k).2)] : D), ([] : List (Option Row)), ([] : List Row)) = (D.agg [D.v (Value.int IntKind.i64 r), D.v (Value.int IntKind.i64 (IntKind.i64.wrap (IntKind.i64.wrap (w - (1 : Int)) - c)))], [], []) := by (try simp (disch := omega) only [wr]); simp [laidF, rot, *]
      rw [e]
      exact (Gets.last (sp := sp) (f := 300) (ch := [.t,.f,.f,.f]) (ps := [(0 : Int) ≤ (0 : Int), (0 : Int) < ↑(2 : Nat), (0 : Int) ≤ (1 : Int), (1 : Int) < ↑(2 : Nat), decide (k > (3 : Int)) = true, (4 : Int) ≠ (0 : Int), (k.tmod (4 : Int) == (1 : Int)) = false, (k.tmod (4 : Int) == (2 : Int)) = false, (k.tmod (4 : Int) == (3 : Int)) = false]) hm (by kernel_rfl) (by simp only [All, and_true]; and_intros <;> (first | rfl | (simp [*]; done) | (simp; omega))))
  ·
    by_cases q1 : k.tmod 4 = 1
    ·
      have e : ((.agg [.v (.int .i64 (laidF h w r c k).1), .v (.int .i64 (laidF h w r c k).2)] : D), ([] : List (Option Row)), ([] : List Row)) = (D.agg [D.v (Value.int IntKind.i64 c), D.v (Value.int IntKind.i64 (IntKind.i64.wrap (IntKind.i64.wrap (h - (1 : Int)) - r)))], [], []) := by (try simp (disch := omega) only [wr]); simp [laidF, rot, *]
      rw [e]
      exact (Gets.last (sp := sp) (f := 300) (ch := [.f,.t]) (ps := [(0 : Int) ≤ (0 : Int), (0 : Int) < ↑(2 : Nat), (0 : Int) ≤ (1 : Int), (1 : Int) < ↑(2 : Nat), decide (k > (3 : Int)) = false, (4 : Int) ≠ (0 : Int), (k.tmod (4 : Int) == (1 : Int)) = true]) hm (by kernel_rfl) (by simp only [All, and_true]; and_intros <;> (first | rfl | (simp [*]; done) | (simp; omega))))
    by_cases q2 : k.tmod 4 = 2
    ·
      have e : ((.agg [.v (.int .i64 (laidF h w r c k).1), .v (.int .i64 (laidF h w r c k).2)] : D), ([] : List (Option Row)), ([] : List Row)) = (D.agg [D.v (Value.int IntKind.i64 (IntKind.i64.wrap (IntKind.i64.wrap (h - (1 : Int)) - r))), D.v (Value.int IntKind.i64 (IntKind.i64.wrap (IntKind.i64.wrap (w - (1 : Int)) - c)))], [], []) := by (try simp (disch := omega) only [wr]); simp [laidF, rot, *]
      rw [e]
      exact (Gets.last (sp := sp) (f := 300) (ch := [.f,.f,.t]) (ps := [(0 : Int) ≤ (0 : Int), (0 : Int) < ↑(2 : Nat), (0 : Int) ≤ (1 : Int), (1 : Int) < ↑(2 : Nat), decide (k > (3 : Int)) = false, (4 : Int) ≠ (0 : Int), (k.tmod (4 : Int) == (1 : Int)) = false, (k.tmod (4 : Int) == (2 : Int)) = true]) hm (by kernel_rfl) (by simp only [All, and_true]; and_intros <;> (first | rfl | (simp [*]; done) | (simp; omega))))
    by_cases q3 : k.tmod 4 = 3
    ·
      have e : ((.agg [.v (.int .i64 (laidF h w r c k).1), .v (.int .i64 (laidF h w r c k).2)] : D), ([] : List (Option Row)), ([] : List Row)) = (D.agg [D.v (Value.int IntKind.i64 (IntKind.i64.wrap (IntKind.i64.wrap (w - (1 : Int)) - c))), D.v (Value.int IntKind.i64 r)], [], []) := by (try simp (disch := omega) only [wr]); simp [laidF, rot, *]
      rw [e]
      exact (Gets.last (sp := sp) (f := 300) (ch := [.f,.f,.f,.t]) (ps := [(0 : Int) ≤ (0 : Int), (0 : Int) < ↑(2 : Nat), (0 : Int) ≤ (1 : Int), (1 : Int) < ↑(2 : Nat), decide (k > (3 : Int)) = false, (4 : Int) ≠ (0 : Int), (k.tmod (4 : Int) == (1 : Int)) = false, (k.tmod (4 : Int) == (2 : Int)) = false, (k.tmod (4 : Int) == (3 : Int)) = true]) hm (by kernel_rfl) (by simp only [All, and_true]; and_intros <;> (first | rfl | (simp [*]; done) | (simp; omega))))
    ·
      have e : ((.agg [.v (.int .i64 (laidF h w r c k).1), .v (.int .i64 (laidF h w r c k).2)] : D), ([] : List (Option Row)), ([] : List Row)) = (D.agg [D.v (Value.int IntKind.i64 r), D.v (Value.int IntKind.i64 c)], [], []) := by (try simp (disch := omega) only [wr]); simp [laidF, rot, *]
      rw [e]
      exact (Gets.last (sp := sp) (f := 300) (ch := [.f,.f,.f,.f]) (ps := [(0 : Int) ≤ (0 : Int), (0 : Int) < ↑(2 : Nat), (0 : Int) ≤ (1 : Int), (1 : Int) < ↑(2 : Nat), decide (k > (3 : Int)) = false, (4 : Int) ≠ (0 : Int), (k.tmod (4 : Int) == (1 : Int)) = false, (k.tmod (4 : Int) == (2 : Int)) = false, (k.tmod (4 : Int) == (3 : Int)) = false]) hm (by kernel_rfl) (by simp only [All, and_true]; and_intros <;> (first | rfl | (simp [*]; done) | (simp; omega))))

theorem c79 (h w i k : Int) (h1 : 1 ≤ h ∧ h ≤ 16) (w1 : 1 ≤ w ∧ w ≤ 16) (i1 : 0 ≤ i ∧ i < h * w) : Con Try.prog 79 [] [.v (.int .i64 h), .v (.int .i64 w), .v (.int .i64 i), .v (.int .i64 k)] (.v (.int .i64 (placeF h w i k))) [] [] := by
  refine con_of (how := [none]) (c := b79) Try.func79 (by kernel_rfl) (by kernel_rfl) ?_
  have hr := row_lt h1 w1 i1
  have hc := col_lt (i := i) w1
  have hi : i ≤ 256 := by have := mul_le h1 w1; omega
  have e1 : IntKind.i64.wrap (i.tdiv w) = i / w := by rw [Int.tdiv_eq_ediv_of_nonneg i1.1]; exact wr (by omega) (by omega)
  have e2 : i.tmod w = i % w := Int.tmod_eq_emod_of_nonneg i1.1
  have L := laid_in h1 w1 hr hc k
  have m1 := mul_in L.1 h1
  have m2 := mul_in L.1 w1
  by_cases k2 : k.tmod 2 = 1
  ·
    have e : ((.v (.int .i64 (placeF h w i k)) : D), ([] : List (Option Row)), ([] : List Row)) = (D.v (Value.int IntKind.i64 (IntKind.i64.wrap (IntKind.i64.wrap ((laidF h w (IntKind.i64.wrap (i.tdiv w)) (i.tmod w) k).fst * h) + (laidF h w (IntKind.i64.wrap (i.tdiv w)) (i.tmod w) k).snd))), [], []) := by rw [e1, e2]; simp (disch := omega) only [wr]; simp [placeF, k2]
    rw [e]
    exact (Gets.last (sp := sp) (f := 300) (ch := [.t]) (ps := [w ≠ (0 : Int), w ≠ (0 : Int), Con Try.prog (nat_lit 118) [] [D.v (Value.int IntKind.i64 h), D.v (Value.int IntKind.i64 w), D.agg [D.v (Value.int IntKind.i64 (IntKind.i64.wrap (i.tdiv w))), D.v (Value.int IntKind.i64 (i.tmod w))], D.v (Value.int IntKind.i64 k)] (D.agg [D.v (Value.int IntKind.i64 (laidF h w (IntKind.i64.wrap (i.tdiv w)) (i.tmod w) k).fst), D.v (Value.int IntKind.i64 (laidF h w (IntKind.i64.wrap (i.tdiv w)) (i.tmod w) k).snd)]) [] [], Value.int IntKind.i64 h = Value.int IntKind.i64 h, Value.int IntKind.i64 w = Value.int IntKind.i64 w, Value.int IntKind.i64 (IntKind.i64.wrap (i.tdiv w)) = Value.int IntKind.i64 (IntKind.i64.wrap (i.tdiv w)), Value.int IntKind.i64 (i.tmod w) = Value.int IntKind.i64 (i.tmod w), Value.int IntKind.i64 k = Value.int IntKind.i64 k, (2 : Int) ≠ (0 : Int), (k.tmod (2 : Int) == (1 : Int)) = true, (0 : Int) ≤ (0 : Int), (0 : Int) < ↑(2 : Nat), (0 : Int) ≤ (1 : Int), (1 : Int) < ↑(2 : Nat)]) hm (by kernel_rfl) (by simp only [All, and_true]; rw [e1, e2]; and_intros <;> (first | rfl | exact c118 h w _ _ k h1 w1 hr hc | (simp [*]; done) | (simp; omega))))
  ·
    have e : ((.v (.int .i64 (placeF h w i k)) : D), ([] : List (Option Row)), ([] : List Row)) = (D.v (Value.int IntKind.i64 (IntKind.i64.wrap (IntKind.i64.wrap ((laidF h w (IntKind.i64.wrap (i.tdiv w)) (i.tmod w) k).fst * w) + (laidF h w (IntKind.i64.wrap (i.tdiv w)) (i.tmod w) k).snd))), [], []) := by rw [e1, e2]; simp (disch := omega) only [wr]; simp [placeF, k2]
    rw [e]
    exact (Gets.last (sp := sp) (f := 300) (ch := [.f]) (ps := [w ≠ (0 : Int), w ≠ (0 : Int), Con Try.prog (nat_lit 118) [] [D.v (Value.int IntKind.i64 h), D.v (Value.int IntKind.i64 w), D.agg [D.v (Value.int IntKind.i64 (IntKind.i64.wrap (i.tdiv w))), D.v (Value.int IntKind.i64 (i.tmod w))], D.v (Value.int IntKind.i64 k)] (D.agg [D.v (Value.int IntKind.i64 (laidF h w (IntKind.i64.wrap (i.tdiv w)) (i.tmod w) k).fst), D.v (Value.int IntKind.i64 (laidF h w (IntKind.i64.wrap (i.tdiv w)) (i.tmod w) k).snd)]) [] [], Value.int IntKind.i64 h = Value.int IntKind.i64 h, Value.int IntKind.i64 w = Value.int IntKind.i64 w, Value.int IntKind.i64 (IntKind.i64.wrap (i.tdiv w)) = Value.int IntKind.i64 (IntKind.i64.wrap (i.tdiv w)), Value.int IntKind.i64 (i.tmod w) = Value.int IntKind.i64 (i.tmod w), Value.int IntKind.i64 k = Value.int IntKind.i64 k, (2 : Int) ≠ (0 : Int), (k.tmod (2 : Int) == (1 : Int)) = false, (0 : Int) ≤ (0 : Int), (0 : Int) < ↑(2 : Nat), (0 : Int) ≤ (1 : Int), (1 : Int) < ↑(2 : Nat)]) hm (by kernel_rfl) (by simp only [All, and_true]; rw [e1, e2]; and_intros <;> (first | rfl | exact c118 h w _ _ k h1 w1 hr hc | (simp [*]; done) | (simp; omega))))

theorem c25 (h w i k : Int)  : Con Try.prog 25 [] [.v (.int .i64 h), .v (.int .i64 w), .v (.int .i64 i), .v (.int .i64 k)] (.tup [.v (.int .i64 (bigF h w i k).1), .v (.int .i64 (bigF h w i k).2)]) [] [] := by
  refine con_of (how := [none, none]) (c := b25) Try.func25 (by kernel_rfl) (by kernel_rfl) ?_
  by_cases b1 : isB k = true
  rotate_left
  · have b0 : isB k = false := by simpa using b1
    clear b1
    have e : ((.tup [.v (.int .i64 (bigF h w i k).1), .v (.int .i64 (bigF h w i k).2)] : D), ([] : List (Option Row)), ([] : List Row)) = (D.tup [D.v (Value.int IntKind.i64 (0 : Int)), D.v (Value.int IntKind.i64 (60 : Int))], [], []) := by simp [bigF, *]
    rw [e]
    exact (Gets.last (sp := sp) (f := 300) (ch := [.t]) (ps := [Con Try.prog (nat_lit 78) [] [D.v (Value.int IntKind.i64 k)] (D.v (Value.bool (isB k))) [] [], Value.int IntKind.i64 k = Value.int IntKind.i64 k, (!isB k) = true]) hm (by kernel_rfl) (by simp only [All, and_true]; and_intros <;> (first | rfl | exact c78 _ | (simp [*]; done) | (simp; omega) | (simp [*]; omega))))
  by_cases a1 : h < 1
  ·
    have e : ((.tup [.v (.int .i64 (bigF h w i k).1), .v (.int .i64 (bigF h w i k).2)] : D), ([] : List (Option Row)), ([] : List Row)) = (D.tup [D.v (Value.int IntKind.i64 (0 : Int)), D.v (Value.int IntKind.i64 (50 : Int))], [], []) := by simp [bigF, *]
    rw [e]
    exact (Gets.last (sp := sp) (f := 300) (ch := [.f,.g [(2,true),(6,true),(10,true)],.t]) (ps := [Con Try.prog (nat_lit 78) [] [D.v (Value.int IntKind.i64 k)] (D.v (Value.bool (isB k))) [] [], Value.int IntKind.i64 k = Value.int IntKind.i64 k, (!isB k) = false, decide (h < (1 : Int)) = true, true = true, true = true, true = true]) hm (by kernel_rfl) (by simp only [All, and_true]; and_intros <;> (first | rfl | exact c78 _ | (simp [*]; done) | (simp; omega) | (simp [*]; omega))))
  by_cases a2 : h > 16
  ·
    have e : ((.tup [.v (.int .i64 (bigF h w i k).1), .v (.int .i64 (bigF h w i k).2)] : D), ([] : List (Option Row)), ([] : List Row)) = (D.tup [D.v (Value.int IntKind.i64 (0 : Int)), D.v (Value.int IntKind.i64 (50 : Int))], [], []) := by simp [bigF, *]
    rw [e]
    exact (Gets.last (sp := sp) (f := 300) (ch := [.f,.g [(2,false),(6,true),(10,true)],.t]) (ps := [Con Try.prog (nat_lit 78) [] [D.v (Value.int IntKind.i64 k)] (D.v (Value.bool (isB k))) [] [], Value.int IntKind.i64 k = Value.int IntKind.i64 k, (!isB k) = false, decide (h < (1 : Int)) = false, (if false = true then true else decide (h > (16 : Int))) = true, true = true, true = true]) hm (by kernel_rfl) (by simp only [All, and_true]; and_intros <;> (first | rfl | exact c78 _ | (simp [*]; done) | (simp; omega) | (simp [*]; omega))))
  by_cases a3 : w < 1
  ·
    have e : ((.tup [.v (.int .i64 (bigF h w i k).1), .v (.int .i64 (bigF h w i k).2)] : D), ([] : List (Option Row)), ([] : List Row)) = (D.tup [D.v (Value.int IntKind.i64 (0 : Int)), D.v (Value.int IntKind.i64 (50 : Int))], [], []) := by simp [bigF, *]
    rw [e]
    exact (Gets.last (sp := sp) (f := 300) (ch := [.f,.g [(2,false),(6,false),(10,true)],.t]) (ps := [Con Try.prog (nat_lit 78) [] [D.v (Value.int IntKind.i64 k)] (D.v (Value.bool (isB k))) [] [], Value.int IntKind.i64 k = Value.int IntKind.i64 k, (!isB k) = false, decide (h < (1 : Int)) = false, (if false = true then true else decide (h > (16 : Int))) = false, (if false = true then true else decide (w < (1 : Int))) = true, true = true]) hm (by kernel_rfl) (by simp only [All, and_true]; and_intros <;> (first | rfl | exact c78 _ | (simp [*]; done) | (simp; omega) | (simp [*]; omega))))
  by_cases a4 : w > 16
  ·
    have e : ((.tup [.v (.int .i64 (bigF h w i k).1), .v (.int .i64 (bigF h w i k).2)] : D), ([] : List (Option Row)), ([] : List Row)) = (D.tup [D.v (Value.int IntKind.i64 (0 : Int)), D.v (Value.int IntKind.i64 (50 : Int))], [], []) := by simp [bigF, *]
    rw [e]
    exact (Gets.last (sp := sp) (f := 300) (ch := [.f,.g [(2,false),(6,false),(10,false)],.t]) (ps := [Con Try.prog (nat_lit 78) [] [D.v (Value.int IntKind.i64 k)] (D.v (Value.bool (isB k))) [] [], Value.int IntKind.i64 k = Value.int IntKind.i64 k, (!isB k) = false, decide (h < (1 : Int)) = false, (if false = true then true else decide (h > (16 : Int))) = false, (if false = true then true else decide (w < (1 : Int))) = false, (if false = true then true else decide (w > (16 : Int))) = true]) hm (by kernel_rfl) (by simp only [All, and_true]; and_intros <;> (first | rfl | exact c78 _ | (simp [*]; done) | (simp; omega) | (simp [*]; omega))))
  have h1 : 1 ≤ h ∧ h ≤ 16 := by omega
  have w1 : 1 ≤ w ∧ w ≤ 16 := by omega
  have hwp : 0 ≤ h * w := Int.mul_nonneg (by omega) (by omega)
  have e3 : IntKind.i64.wrap (h * w) = h * w := wr (by omega) (by have := mul_le h1 w1; omega)
  have a5 : ¬ (h < 1 ∨ h > 16 ∨ w < 1 ∨ w > 16) := by omega
  by_cases a6 : i < 0
  ·
    have e : ((.tup [.v (.int .i64 (bigF h w i k).1), .v (.int .i64 (bigF h w i k).2)] : D), ([] : List (Option Row)), ([] : List Row)) = (D.tup [D.v (Value.int IntKind.i64 (0 : Int)), D.v (Value.int IntKind.i64 (51 : Int))], [], []) := by simp only [bigF, b1, if_true, if_neg a5]; simp [*]
    rw [e]
    exact (Gets.last (sp := sp) (f := 300) (ch := [.f,.g [(2,false),(6,false),(10,false)],.f,.g [(2,true)],.t]) (ps := [Con Try.prog (nat_lit 78) [] [D.v (Value.int IntKind.i64 k)] (D.v (Value.bool (isB k))) [] [], Value.int IntKind.i64 k = Value.int IntKind.i64 k, (!isB k) = false, decide (h < (1 : Int)) = false, (if false = true then true else decide (h > (16 : Int))) = false, (if false = true then true else decide (w < (1 : Int))) = false, (if false = true then true else decide (w > (16 : Int))) = false, decide (i < (0 : Int)) = true, true = true]) hm (by kernel_rfl) (by simp only [All, and_true]; and_intros <;> (first | rfl | exact c78 _ | (simp [*]; done) | (simp; omega) | (simp [*]; omega))))
  by_cases a7 : i ≥ h * w
  ·
    have e : ((.tup [.v (.int .i64 (bigF h w i k).1), .v (.int .i64 (bigF h w i k).2)] : D), ([] : List (Option Row)), ([] : List Row)) = (D.tup [D.v (Value.int IntKind.i64 (0 : Int)), D.v (Value.int IntKind.i64 (51 : Int))], [], []) := by simp only [bigF, b1, if_true, if_neg a5]; simp [*]
    rw [e]
    exact (Gets.last (sp := sp) (f := 300) (ch := [.f,.g [(2,false),(6,false),(10,false)],.f,.g [(2,false)],.t]) (ps := [Con Try.prog (nat_lit 78) [] [D.v (Value.int IntKind.i64 k)] (D.v (Value.bool (isB k))) [] [], Value.int IntKind.i64 k = Value.int IntKind.i64 k, (!isB k) = false, decide (h < (1 : Int)) = false, (if false = true then true else decide (h > (16 : Int))) = false, (if false = true then true else decide (w < (1 : Int))) = false, (if false = true then true else decide (w > (16 : Int))) = false, decide (i < (0 : Int)) = false, (if false = true then true else decide (i ≥ IntKind.i64.wrap (h * w))) = true]) hm (by kernel_rfl) (by simp only [All, and_true]; and_intros <;> (first | rfl | exact c78 _ | (simp [*]; done) | (simp; omega) | (simp [*]; omega))))
  have i1 : 0 ≤ i ∧ i < h * w := by omega
  have e : ((.tup [.v (.int .i64 (bigF h w i k).1), .v (.int .i64 (bigF h w i k).2)] : D), ([] : List (Option Row)), ([] : List Row)) = (D.tup [D.v (Value.int IntKind.i64 (placeF h w i k)), D.v (Value.int IntKind.i64 (0 : Int))], [], []) := by simp only [bigF, b1, if_true, if_neg a5]; simp [*]
  rw [e]
  exact (Gets.last (sp := sp) (f := 300) (ch := [.f,.g [(2,false),(6,false),(10,false)],.f,.g [(2,false)],.f]) (ps := [Con Try.prog (nat_lit 78) [] [D.v (Value.int IntKind.i64 k)] (D.v (Value.bool (isB k))) [] [], Value.int IntKind.i64 k = Value.int IntKind.i64 k, (!isB k) = false, decide (h < (1 : Int)) = false, (if false = true then true else decide (h > (16 : Int))) = false, (if false = true then true else decide (w < (1 : Int))) = false, (if false = true then true else decide (w > (16 : Int))) = false, decide (i < (0 : Int)) = false, (if false = true then true else decide (i ≥ IntKind.i64.wrap (h * w))) = false, Con Try.prog (nat_lit 79) [] [D.v (Value.int IntKind.i64 h), D.v (Value.int IntKind.i64 w), D.v (Value.int IntKind.i64 i), D.v (Value.int IntKind.i64 k)] (D.v (Value.int IntKind.i64 (placeF h w i k))) [] [], Value.int IntKind.i64 h = Value.int IntKind.i64 h, Value.int IntKind.i64 w = Value.int IntKind.i64 w, Value.int IntKind.i64 i = Value.int IntKind.i64 i, Value.int IntKind.i64 k = Value.int IntKind.i64 k]) hm (by kernel_rfl) (by simp only [All, and_true]; and_intros <;> (first | rfl | exact c78 _ | exact c79 h w i k h1 w1 i1 | (simp [*]; done) | (simp; omega) | (simp [*]; omega))))

theorem c29 (a : Int)  : Con Try.prog 29 [] [.v (.int .i64 a)] (.v (.int .i64 (backF a))) [] [] := by
  refine con_of (how := [none]) (c := b29) Try.func29 (by kernel_rfl) (by kernel_rfl) ?_
  by_cases b1 : isB a = true
  rotate_left
  · have b0 : isB a = false := by simpa using b1
    clear b1
    have e : ((.v (.int .i64 (backF a)) : D), ([] : List (Option Row)), ([] : List Row)) = (D.v (Value.int IntKind.i64 (-1 : Int)), [], []) := by simp [backF, *]
    rw [e]
    exact (Gets.last (sp := sp) (f := 300) (ch := [.t]) (ps := [Con Try.prog (nat_lit 78) [] [D.v (Value.int IntKind.i64 a)] (D.v (Value.bool (isB a))) [] [], Value.int IntKind.i64 a = Value.int IntKind.i64 a, (!isB a) = true]) hm (by kernel_rfl) (by simp only [All, and_true]; and_intros <;> (first | rfl | exact c78 _ | (simp [*]; done) | (simp; omega) | (simp [*]; omega))))
  have ha := isB_iff.1 b1
  by_cases a1 : a > 3
  ·
    have e : ((.v (.int .i64 (backF a)) : D), ([] : List (Option Row)), ([] : List Row)) = (D.v (Value.int IntKind.i64 a), [], []) := by simp [backF, *]
    rw [e]
    exact (Gets.last (sp := sp) (f := 300) (ch := [.f,.t]) (ps := [Con Try.prog (nat_lit 78) [] [D.v (Value.int IntKind.i64 a)] (D.v (Value.bool (isB a))) [] [], Value.int IntKind.i64 a = Value.int IntKind.i64 a, (!isB a) = false, decide (a > (3 : Int)) = true]) hm (by kernel_rfl) (by simp only [All, and_true]; and_intros <;> (first | rfl | exact c78 _ | (simp [*]; done) | (simp; omega) | (simp [*]; omega))))
  ·
    have e1 : (4 - a).tmod 4 = (4 - a) % 4 := Int.tmod_eq_emod_of_nonneg (by omega)
    have e : ((.v (.int .i64 (backF a)) : D), ([] : List (Option Row)), ([] : List Row)) = (D.v (Value.int IntKind.i64 ((IntKind.i64.wrap ((4 : Int) - a)).tmod (4 : Int))), [], []) := by simp (disch := omega) only [wr]; simp [backF, *]
    rw [e]
    exact (Gets.last (sp := sp) (f := 300) (ch := [.f,.f]) (ps := [Con Try.prog (nat_lit 78) [] [D.v (Value.int IntKind.i64 a)] (D.v (Value.bool (isB a))) [] [], Value.int IntKind.i64 a = Value.int IntKind.i64 a, (!isB a) = false, decide (a > (3 : Int)) = false, (4 : Int) ≠ (0 : Int)]) hm (by kernel_rfl) (by simp only [All, and_true]; and_intros <;> (first | rfl | exact c78 _ | (simp [*]; done) | (simp; omega) | (simp [*]; omega))))

theorem c27 (a b : Int)  : Con Try.prog 27 [] [.v (.int .i64 a), .v (.int .i64 b)] (.v (.int .i64 (thenF a b))) [] [] := by
  refine con_of (how := [none]) (c := b27) Try.func27 (by kernel_rfl) (by kernel_rfl) ?_
  by_cases b1 : isB a = true
  rotate_left
  · have b0 : isB a = false := by simpa using b1
    clear b1
    have e : ((.v (.int .i64 (thenF a b)) : D), ([] : List (Option Row)), ([] : List Row)) = (D.v (Value.int IntKind.i64 (-1 : Int)), [], []) := by simp [thenF, *]
    rw [e]
    exact (Gets.last (sp := sp) (f := 300) (ch := [.g [(3,true)],.t]) (ps := [Con Try.prog (nat_lit 78) [] [D.v (Value.int IntKind.i64 a)] (D.v (Value.bool (isB a))) [] [], Value.int IntKind.i64 a = Value.int IntKind.i64 a, (!isB a) = true, true = true]) hm (by kernel_rfl) (by simp only [All, and_true]; and_intros <;> (first | rfl | exact c78 _ | (simp [*]; done) | (simp; omega) | (simp [*]; omega))))
  by_cases b2 : isB b = true
  rotate_left
  · have b0 : isB b = false := by simpa using b2
    clear b2
    have e : ((.v (.int .i64 (thenF a b)) : D), ([] : List (Option Row)), ([] : List Row)) = (D.v (Value.int IntKind.i64 (-1 : Int)), [], []) := by simp [thenF, *]
    rw [e]
    exact (Gets.last (sp := sp) (f := 300) (ch := [.g [(3,false)],.t]) (ps := [Con Try.prog (nat_lit 78) [] [D.v (Value.int IntKind.i64 a)] (D.v (Value.bool (isB a))) [] [], Value.int IntKind.i64 a = Value.int IntKind.i64 a, (!isB a) = false, Con Try.prog (nat_lit 78) [] [D.v (Value.int IntKind.i64 b)] (D.v (Value.bool (isB b))) [] [], Value.int IntKind.i64 b = Value.int IntKind.i64 b, (if false = true then true else !isB b) = true]) hm (by kernel_rfl) (by simp only [All, and_true]; and_intros <;> (first | rfl | exact c78 _ | (simp [*]; done) | (simp; omega) | (simp [*]; omega))))
  have ha := isB_iff.1 b1
  have hb := isB_iff.1 b2
  have e1 : a.tmod 4 = a % 4 := Int.tmod_eq_emod_of_nonneg (by omega)
  have e2 : a.tdiv 4 = a / 4 := Int.tdiv_eq_ediv_of_nonneg (by omega)
  have e3 : b.tdiv 4 = b / 4 := Int.tdiv_eq_ediv_of_nonneg (by omega)
  have e4 : (a / 4 + b / 4).tmod 2 = (a / 4 + b / 4) % 2 := Int.tmod_eq_emod_of_nonneg (by omega)
  by_cases a1 : b > 3
  ·
    have e5 : (4 - a % 4 + b).tmod 4 = (4 - a % 4 + b) % 4 := Int.tmod_eq_emod_of_nonneg (by omega)
    have e : ((.v (.int .i64 (thenF a b)) : D), ([] : List (Option Row)), ([] : List Row)) = (D.v (Value.int IntKind.i64 (IntKind.i64.wrap ((IntKind.i64.wrap (IntKind.i64.wrap ((4 : Int) - a.tmod (4 : Int)) + b)).tmod (4 : Int) + IntKind.i64.wrap ((IntKind.i64.wrap (IntKind.i64.wrap (a.tdiv (4 : Int)) + IntKind.i64.wrap (b.tdiv (4 : Int)))).tmod (2 : Int) * (4 : Int))))), [], []) := by rw [e1, e2, e3]; (try simp (disch := omega) only [wr]); rw [e4, e5]; (try simp (disch := omega) only [wr]); simp [thenF, *]
    rw [e]
    exact (Gets.last (sp := sp) (f := 300) (ch := [.g [(3,false)],.f,.t]) (ps := [Con Try.prog (nat_lit 78) [] [D.v (Value.int IntKind.i64 a)] (D.v (Value.bool (isB a))) [] [], Value.int IntKind.i64 a = Value.int IntKind.i64 a, (!isB a) = false, Con Try.prog (nat_lit 78) [] [D.v (Value.int IntKind.i64 b)] (D.v (Value.bool (isB b))) [] [], Value.int IntKind.i64 b = Value.int IntKind.i64 b, (if false = true then true else !isB b) = false, (4 : Int) ≠ (0 : Int), decide (b > (3 : Int)) = true, (4 : Int) ≠ (0 : Int), (4 : Int) ≠ (0 : Int), (4 : Int) ≠ (0 : Int), (2 : Int) ≠ (0 : Int)]) hm (by kernel_rfl) (by simp only [All, and_true]; and_intros <;> (first | rfl | exact c78 _ | (simp [*]; done) | (simp; omega) | (simp [*]; omega))))
  ·
    have e5 : (a % 4 + b).tmod 4 = (a % 4 + b) % 4 := Int.tmod_eq_emod_of_nonneg (by omega)
    have e : ((.v (.int .i64 (thenF a b)) : D), ([] : List (Option Row)), ([] : List Row)) = (D.v (Value.int IntKind.i64 (IntKind.i64.wrap ((IntKind.i64.wrap (a.tmod (4 : Int) + b)).tmod (4 : Int) + IntKind.i64.wrap ((IntKind.i64.wrap (IntKind.i64.wrap (a.tdiv (4 : Int)) + IntKind.i64.wrap (b.tdiv (4 : Int)))).tmod (2 : Int) * (4 : Int))))), [], []) := by rw [e1, e2, e3]; (try simp (disch := omega) only [wr]); rw [e4, e5]; (try simp (disch := omega) only [wr]); simp [thenF, *]
    rw [e]
    exact (Gets.last (sp := sp) (f := 300) (ch := [.g [(3,false)],.f,.f]) (ps := [Con Try.prog (nat_lit 78) [] [D.v (Value.int IntKind.i64 a)] (D.v (Value.bool (isB a))) [] [], Value.int IntKind.i64 a = Value.int IntKind.i64 a, (!isB a) = false, Con Try.prog (nat_lit 78) [] [D.v (Value.int IntKind.i64 b)] (D.v (Value.bool (isB b))) [] [], Value.int IntKind.i64 b = Value.int IntKind.i64 b, (if false = true then true else !isB b) = false, (4 : Int) ≠ (0 : Int), decide (b > (3 : Int)) = false, (4 : Int) ≠ (0 : Int), (4 : Int) ≠ (0 : Int), (4 : Int) ≠ (0 : Int), (2 : Int) ≠ (0 : Int)]) hm (by kernel_rfl) (by simp only [All, and_true]; and_intros <;> (first | rfl | exact c78 _ | (simp [*]; done) | (simp; omega) | (simp [*]; omega))))

end Go.Proofs.YtnakmganodkliaaAm
