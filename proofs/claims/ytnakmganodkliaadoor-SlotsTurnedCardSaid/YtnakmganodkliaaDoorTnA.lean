/- The contracts of package turn's small functions: what each answers, for the numbers that it may be given. -/
import Derived.Test.YtnakmganodkliaaDoorTnS
set_option linter.unusedVariables false
set_option linter.unusedSimpArgs false
set_option maxRecDepth 10000
namespace Go.Proofs.YtnakmganodkliaaDoorAm
open Go


theorem c78 (k : Int)  : Con Tryd.prog 85 [] [.v (.int .i64 k)] (.v (.bool (isB k))) [] [] := by
  refine con_of (how := [none]) (c := b78) Tryd.func85 (by kernel_rfl) (by kernel_rfl) ?_
  by_cases h : 0 ≤ k
  ·
    have e : ((.v (.bool (isB k)) : D), ([] : List (Option Row)), ([] : List Row)) = (D.v (Value.bool (if true = true then decide (k < (8 : Int)) else false)), [], []) := by simp [isB, h]
    rw [e]
    exact (Gets.last (sp := sp) (f := 300) (ch := [.g [(2,true)]]) (ps := [decide (k ≥ (0 : Int)) = true]) hm (by kernel_rfl) (by simp only [All, and_true]; and_intros <;> (first | rfl | (simp [*]; done) | (simp; omega))))
  ·
    have e : ((.v (.bool (isB k)) : D), ([] : List (Option Row)), ([] : List Row)) = (D.v (Value.bool false), [], []) := by simp [isB, h]
    rw [e]
    exact (Gets.last (sp := sp) (f := 300) (ch := [.g [(2,false)]]) (ps := [decide (k ≥ (0 : Int)) = false]) hm (by kernel_rfl) (by simp only [All, and_true]; and_intros <;> (first | rfl | (simp [*]; done) | (simp; omega))))

theorem c118 (h w r c k : Int) (h1 : 1 ≤ h ∧ h ≤ 16) (w1 : 1 ≤ w ∧ w ≤ 16) (r1 : 0 ≤ r ∧ r < h) (c1 : 0 ≤ c ∧ c < w) : Con Tryd.prog 119 [] [.v (.int .i64 h), .v (.int .i64 w), .agg [.v (.int .i64 r), .v (.int .i64 c)], .v (.int .i64 k)] (.agg [.v (.int .i64 (laidF h w r c k).1), .v (.int .i64 (laidF h w r c k).2)]) [] [] := by
  refine con_of (how := [none]) (c := b118) Tryd.func119 (by kernel_rfl) (by kernel_rfl) ?_
  by_cases k3 : k > 3
  ·
    by_cases q1 : k.tmod 4 = 1
    ·
      have e : ((.agg [.v (.int .i64 (laidF h w r c k).1), .v (.int .i64 (laidF h w r c k).2)] : D), ([] : List (Option Row)), ([] : List Row)) = (D.agg [D.v (Value.int IntKind.i64 (IntKind.i64.wrap (IntKind.i64.wrap (w - (1 : Int)) - c))), D.v (Value.int IntKind.i64 (IntKind.i64.wrap (IntKind.i64.wrap (h - (1 : Int)) - r)))], [], []) := by (try simp (disch := omega) only [wr]); simp [laidF, rot, *]
      rw [e]
      exact (Gets.last (sp := sp) (f := 300) (ch := [.t,.t]) (ps := [(0 : Int) ≤ (0 : Int), (0 : Int) < ↑(2 : Nat), (0 : Int) ≤ (1 : Int), (1 : Int) < ↑(2 : Nat), decide (k > (3 : Int)) = true, (4 : Int) ≠ (0 : Int), (k.tmod (4 : Int) == (1 : Int)) = true]) hm (by kernel_rfl) (by simp only [All, and_true]; and_intros <;> (first | rfl | (simp [*]; done) | (simp; omega))))
    by_cases q2 : k.tmod 4 = 2
    ·
      have e : ((.agg [.v (.int .i64 (laidF h w r c k).1), .v (.int .i64 (laidF h w r c k).2)] : D), ([] : List (Option Row)), ([] : List Row)) = (D.agg [D.v (Value.int IntKind.i64 (IntKind.i64.wrap (IntKind.i64.wrap (h - (1 : Int)) - r))), D.v (Value.int IntKind.i64 (IntKind.i64.wrap (IntKind.i64.wrap (w - (1 : Int)) - IntKind.i64.wrap (IntKind.i64.wrap (w - (1 : Int)) - c))))], [], []) := by (try simp (disch := omega) only [wr]); simp [laidF, rot, *]
      rw [e]
      exact (Gets.last (sp := sp) (f := 300) (ch := [.t,.f,.t]) (ps := [(0 : Int) ≤ (0 : Int), (0 : Int) < ↑(2 : Nat), (0 : Int) ≤ (1 : Int), (1 : Int) < ↑(2 : Nat), decide (k > (3 : Int)) = true, (4 : Int) ≠ (0 : Int), (k.tmod (4 : Int) == (1 : Int)) = false, (k.tmod (4 : Int) == (2 : Int)) = true]) hm (by kernel_rfl) (by simp only [All, and_true]; and_intros <;> (first | rfl | (simp [*]; done) | (simp; omega))))
    by_cases q3 : k.tmod 4 = 3
    ·
      have e : ((.agg [.v (.int .i64 (laidF h w r c k).1), .v (.int .i64 (laidF h w r c k).2)] : D), ([] : List (Option Row)), ([] : List Row)) = (D.agg [D.v (Value.int IntKind.i64 (IntKind.i64.wrap (IntKind.i64.wrap (w - (1 : Int)) - IntKind.i64.wrap (IntKind.i64.wrap (w - (1 : Int)) - c)))), D.v (Value.int IntKind.i64 r)], [], []) := by (try simp (disch := omega) only [wr]); simp [laidF, rot, *]
      rw [e]
      exact (Gets.last (sp := sp) (f := 300) (ch := [.t,.f,.f,.t]) (ps := [(0 : Int) ≤ (0 : Int), (0 : Int) < ↑(2 : Nat), (0 : Int) ≤ (1 : Int), (1 : Int) < ↑(2 : Nat), decide (k > (3 : Int)) = true, (4 : Int) ≠ (0 : Int), (k.tmod (4 : Int) == (1 : Int)) = false, (k.tmod (4 : Int) == (2 : Int)) = false, (k.tmod (4 : Int) == (3 : Int)) = true]) hm (by kernel_rfl) (by simp only [All, and_true]; and_intros <;> (first | rfl | (simp [*]; done) | (simp; omega))))
    ·
      have e : ((.agg [.v (.int .i64 (laidF h w r c k).1), .v (.int .i64 (laidF h w r c k).2)] : D), ([] : List (Option Row)), ([] : List Row)) = (D.agg [D.v (Value.int IntKind.i64 r), D.v (Value.int IntKind.i64 (IntKind.i64.wrap (IntKind.i64.wrap (w - (1 : Int)) - c)))], [], []) := by (try simp (disch := omega) only [wr]); simp [laidF, rot, *]
      rw [e]
      exact (Gets.last (sp := sp) (f := 300) (ch := [.t,.f,.f,.f]) (ps := [(0 : Int) ≤ (0 : Int), (0 : Int) < ↑(2 : Nat), (0 : Int) ≤ (1 : Int), (1 : Int) < ↑(2 : Nat), decide (k > (3 : Int)) = true, (4 : Int) ≠ (0 : Int), (k.tmod (4 : Int) == (1 : Int)) = false, (k.tmod (4 : Int) == (2 : Int)) = false, (k.tmod (4 : Int) == (3 : Int)) = false]) hm (by kernel_rfl) (by simp only [All, and_true]; and_intros <;> (first | rfl | (simp [*]; done) | (simp; omega))))
  ·
    by_cases q1 : k.tmod 4 = 1
    ·
      have e : ((.agg [.v (.int .i64 (laidF h w r c k).1), .v (.int .i64 (laidF h w r c k).2)] : D), ([] : List (Option Row)), ([] : List Row)) = (D.agg [D.v (Value.int IntKind.i64 c), D.v (Value.int IntKind.i64 (IntKind.i64.wrap (IntKind.i64.wrap (h - (1 : Int)) - r)))], [], []) := by (try simp (disch := omega) only [wr]); simp [laidF, rot, *]
      rw [e]
      exact (Gets.last (sp := sp) (f := 300) (ch := [.f,.t]) (ps := [(0 : Int) ≤ (0 : Int), (0 : Int) < ↑(2 : Nat), (0 : Int) ≤ (1 : Int), (1 : Int) < ↑(2 : Nat), decide (k > (3 : Int)) = false, (4 : Int) ≠ (0 : Int), (k.tmod (4 : Int) == (1 : Int)) = true]) hm (by kernel_rfl) (by simp only [All, and_true]; and_intros <;> (first | rfl | (simp [*]; done) | (simp; omega))))
    by_cases q2 : k.tmod 4 = 2
    ·
      have e : ((.agg [.v (.int .i64 (laidF h w r c k).1), .v (.int .i64 (laidF h w r c k).2)] : D), ([] : List (Option Row)), ([] : List Row)) = (D.agg [D.v (Value.int IntKind.i64 (IntKind.i64.wrap (IntKind.i64.wrap (h - (1 : Int)) - r))), D.v (Value.int IntKind.i64 (IntKind.i64.wrap (IntKind.i64.wrap (w - (1 : Int)) - c)))], [], []) := by (try simp (disch := omega) only [wr]); simp [laidF, rot, *]
      rw [e]
      exact (Gets.last (sp := sp) (f := 300) (ch := [.f,.f,.t]) (ps := [(0 : Int) ≤ (0 : Int), (0 : Int) < ↑(2 : Nat), (0 : Int) ≤ (1 : Int), (1 : Int) < ↑(2 : Nat), decide (k > (3 : Int)) = false, (4 : Int) ≠ (0 : Int), (k.tmod (4 : Int) == (1 : Int)) = false, (k.tmod (4 : Int) == (2 : Int)) = true]) hm (by kernel_rfl) (by simp only [All, and_true]; and_intros <;> (first | rfl | (simp [*]; done) | (simp; omega))))
    by_cases q3 : k.tmod 4 = 3
    ·
      have e : ((.agg [.v (.int .i64 (laidF h w r c k).1), .v (.int .i64 (laidF h w r c k).2)] : D), ([] : List (Option Row)), ([] : List Row)) = (D.agg [D.v (Value.int IntKind.i64 (IntKind.i64.wrap (IntKind.i64.wrap (w - (1 : Int)) - c))), D.v (Value.int IntKind.i64 r)], [], []) := by (try simp (disch := omega) only [wr]); simp [laidF, rot, *]
      rw [e]
      exact (Gets.last (sp := sp) (f := 300) (ch := [.f,.f,.f,.t]) (ps := [(0 : Int) ≤ (0 : Int), (0 : Int) < ↑(2 : Nat), (0 : Int) ≤ (1 : Int), (1 : Int) < ↑(2 : Nat), decide (k > (3 : Int)) = false, (4 : Int) ≠ (0 : Int), (k.tmod (4 : Int) == (1 : Int)) = false, (k.tmod (4 : Int) == (2 : Int)) = false, (k.tmod (4 : Int) == (3 : Int)) = true]) hm (by kernel_rfl) (by simp only [All, and_true]; and_intros <;> (first | rfl | (simp [*]; done) | (simp; omega))))
    ·
      have e : ((.agg [.v (.int .i64 (laidF h w r c k).1), .v (.int .i64 (laidF h w r c k).2)] : D), ([] : List (Option Row)), ([] : List Row)) = (D.agg [D.v (Value.int IntKind.i64 r), D.v (Value.int IntKind.i64 c)], [], []) := by (try simp (disch := omega) only [wr]); simp [laidF, rot, *]
      rw [e]
      exact (Gets.last (sp := sp) (f := 300) (ch := [.f,.f,.f,.f]) (ps := [(0 : Int) ≤ (0 : Int), (0 : Int) < ↑(2 : Nat), (0 : Int) ≤ (1 : Int), (1 : Int) < ↑(2 : Nat), decide (k > (3 : Int)) = false, (4 : Int) ≠ (0 : Int), (k.tmod (4 : Int) == (1 : Int)) = false, (k.tmod (4 : Int) == (2 : Int)) = false, (k.tmod (4 : Int) == (3 : Int)) = false]) hm (by kernel_rfl) (by simp only [All, and_true]; and_intros <;> (first | rfl | (simp [*]; done) | (simp; omega))))

theorem c79 (h w i k : Int) (h1 : 1 ≤ h ∧ h ≤ 16) (w1 : 1 ≤ w ∧ w ≤ 16) (i1 : 0 ≤ i ∧ i < h * w) : Con Tryd.prog 88 [] [.v (.int .i64 h), .v (.int .i64 w), .v (.int .i64 i), .v (.int .i64 k)] (.v (.int .i64 (placeF h w i k))) [] [] := by
  refine con_of (how := [none]) (c := b79) Tryd.func88 (by kernel_rfl) (by kernel_rfl) ?_
  have hr := row_lt h1 w1 i1
  have hc := col_lt (i := i) w1
  have hi : i ≤ 256 := by have := mul_le h1 w1; omega
  have e1 : IntKind.i64.wrap (i.tdiv w) = i / w := by rw [Int.tdiv_eq_ediv_of_nonneg i1.1]; exact wr (by omega) (by omega)
  have e2 : i.tmod w = i % w := Int.tmod_eq_emod_of_nonneg i1.1
  have L := laid_in h1 w1 hr hc k
  have m1 := mul_in L.1 h1
  have m2 := mul_in L.1 w1
  by_cases k2 : k.tmod 2 = 1
  ·
    have e : ((.v (.int .i64 (placeF h w i k)) : D), ([] : List (Option Row)), ([] : List Row)) = (D.v (Value.int IntKind.i64 (IntKind.i64.wrap (IntKind.i64.wrap ((laidF h w (IntKind.i64.wrap (i.tdiv w)) (i.tmod w) k).fst * h) + (laidF h w (IntKind.i64.wrap (i.tdiv w)) (i.tmod w) k).snd))), [], []) := by rw [e1, e2]; simp (disch := omega) only [wr]; simp [placeF, k2]
    rw [e]
    exact (Gets.last (sp := sp) (f := 300) (ch := [.t]) (ps := [w ≠ (0 : Int), w ≠ (0 : Int), Con Tryd.prog 119 [] [D.v (Value.int IntKind.i64 h), D.v (Value.int IntKind.i64 w), D.agg [D.v (Value.int IntKind.i64 (IntKind.i64.wrap (i.tdiv w))), D.v (Value.int IntKind.i64 (i.tmod w))], D.v (Value.int IntKind.i64 k)] (D.agg [D.v (Value.int IntKind.i64 (laidF h w (IntKind.i64.wrap (i.tdiv w)) (i.tmod w) k).fst), D.v (Value.int IntKind.i64 (laidF h w (IntKind.i64.wrap (i.tdiv w)) (i.tmod w) k).snd)]) [] [], Value.int IntKind.i64 h = Value.int IntKind.i64 h, Value.int IntKind.i64 w = Value.int IntKind.i64 w, Value.int IntKind.i64 (IntKind.i64.wrap (i.tdiv w)) = Value.int IntKind.i64 (IntKind.i64.wrap (i.tdiv w)), Value.int IntKind.i64 (i.tmod w) = Value.int IntKind.i64 (i.tmod w), Value.int IntKind.i64 k = Value.int IntKind.i64 k, (2 : Int) ≠ (0 : Int), (k.tmod (2 : Int) == (1 : Int)) = true, (0 : Int) ≤ (0 : Int), (0 : Int) < ↑(2 : Nat), (0 : Int) ≤ (1 : Int), (1 : Int) < ↑(2 : Nat)]) hm (by kernel_rfl) (by simp only [All, and_true]; rw [e1, e2]; and_intros <;> (first | rfl | exact c118 h w _ _ k h1 w1 hr hc | (simp [*]; done) | (simp; omega))))
  ·
    have e : ((.v (.int .i64 (placeF h w i k)) : D), ([] : List (Option Row)), ([] : List Row)) = (D.v (Value.int IntKind.i64 (IntKind.i64.wrap (IntKind.i64.wrap ((laidF h w (IntKind.i64.wrap (i.tdiv w)) (i.tmod w) k).fst * w) + (laidF h w (IntKind.i64.wrap (i.tdiv w)) (i.tmod w) k).snd))), [], []) := by rw [e1, e2]; simp (disch := omega) only [wr]; simp [placeF, k2]
    rw [e]
    exact (Gets.last (sp := sp) (f := 300) (ch := [.f]) (ps := [w ≠ (0 : Int), w ≠ (0 : Int), Con Tryd.prog 119 [] [D.v (Value.int IntKind.i64 h), D.v (Value.int IntKind.i64 w), D.agg [D.v (Value.int IntKind.i64 (IntKind.i64.wrap (i.tdiv w))), D.v (Value.int IntKind.i64 (i.tmod w))], D.v (Value.int IntKind.i64 k)] (D.agg [D.v (Value.int IntKind.i64 (laidF h w (IntKind.i64.wrap (i.tdiv w)) (i.tmod w) k).fst), D.v (Value.int IntKind.i64 (laidF h w (IntKind.i64.wrap (i.tdiv w)) (i.tmod w) k).snd)]) [] [], Value.int IntKind.i64 h = Value.int IntKind.i64 h, Value.int IntKind.i64 w = Value.int IntKind.i64 w, Value.int IntKind.i64 (IntKind.i64.wrap (i.tdiv w)) = Value.int IntKind.i64 (IntKind.i64.wrap (i.tdiv w)), Value.int IntKind.i64 (i.tmod w) = Value.int IntKind.i64 (i.tmod w), Value.int IntKind.i64 k = Value.int IntKind.i64 k, (2 : Int) ≠ (0 : Int), (k.tmod (2 : Int) == (1 : Int)) = false, (0 : Int) ≤ (0 : Int), (0 : Int) < ↑(2 : Nat), (0 : Int) ≤ (1 : Int), (1 : Int) < ↑(2 : Nat)]) hm (by kernel_rfl) (by simp only [All, and_true]; rw [e1, e2]; and_intros <;> (first | rfl | exact c118 h w _ _ k h1 w1 hr hc | (simp [*]; done) | (simp; omega))))
