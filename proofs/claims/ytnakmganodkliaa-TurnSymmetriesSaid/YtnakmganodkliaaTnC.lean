/- The contracts of the reference's Then and Back, and of the law on places. -/
import Derived.Test.YtnakmganodkliaaTnU
set_option linter.unusedVariables false
set_option linter.unusedSimpArgs false
set_option maxRecDepth 10000
namespace Go.Proofs.YtnakmganodkliaaAm
open Go


theorem L28i (a b c R : Int) (hc : 0 ≤ c ∧ c < 8) (hn : Gets Try.prog 0 k28o (st28o a b (c + 1)) (Ends Try.prog 0 Try.f28.results.toList [none] (.v (.int .i64 R), [], []))) (m : Nat) : ∀ (i : Int) (same : Bool), 0 ≤ i → i + m = 6 →
    Gets Try.prog 0 k28i (st28i a b c same i) (Ends Try.prog 0 Try.f28.results.toList [none] (.v (.int .i64 (if same && allFrom a b c m i then c else R)), [], [])) := by
  have ec : IntKind.i64.wrap (c + 1) = c + 1 := wr (by omega) (by omega)
  induction m with
  | zero =>
    intro i same i0 im
    have i6 : ¬ i < 6 := by omega
    cases same with
    | false =>
      refine (Gets.path (sp := sp) (f := 300) (ch := [.g [(2,false)],.f,.f]) (keep := [0,1,5]) (k' := k28o) (s' := (st28o a b (IntKind.i64.wrap (c + 1)))) (ps := [decide (i < (6 : Int)) = false, false = false, false = false]) hm (by kernel_rfl) (by simp only [All, and_true] <;> and_intros <;> (first | rfl | exact c26 _ _ _ _ | (simp [*]; done) | (simp; omega) | (simp [*]; omega))) ?_)
      rw [ec]
      exact hn
    | true =>
      have e : ((.v (.int .i64 (if true && allFrom a b c 0 i then c else R)) : D), ([] : List (Option Row)), ([] : List Row)) = (D.v (Value.int IntKind.i64 c), [], []) := by simp [allFrom]
      rw [e]
      exact (Gets.last (sp := sp) (f := 300) (ch := [.g [(2,false)],.f,.t]) (ps := [decide (i < (6 : Int)) = false, false = false, true = true]) hm (by kernel_rfl) (by simp only [All, and_true] <;> and_intros <;> (first | rfl | exact c26 _ _ _ _ | (simp [*]; done) | (simp; omega) | (simp [*]; omega))))
  | succ m ih =>
    intro i same i0 im
    have i6 : i < 6 := by omega
    cases same with
    | false =>
      refine (Gets.path (sp := sp) (f := 300) (ch := [.g [(2,true)],.f,.f]) (keep := [0,1,5]) (k' := k28o) (s' := (st28o a b (IntKind.i64.wrap (c + 1)))) (ps := [decide (i < (6 : Int)) = true, (if true = true then false else false) = false, false = false]) hm (by kernel_rfl) (by simp only [All, and_true] <;> and_intros <;> (first | rfl | exact c26 _ _ _ _ | (simp [*]; done) | (simp; omega) | (simp [*]; omega))) ?_)
      rw [ec]
      exact hn
    | true =>
      have ei : IntKind.i64.wrap (i + 1) = i + 1 := wr (by omega) (by omega)
      by_cases a1 : a.tmod 2 = 1
      ·
        refine (Gets.path (sp := sp) (f := 300) (ch := [.g [(2,true)],.t,.t]) (keep := [0,1,5,6,7]) (k' := k28i) (s' := (st28i a b c ((bigF 3 2 (bigF 2 3 i a).1 b).1 == (bigF 2 3 i c).1) (IntKind.i64.wrap (i + 1)))) (ps := [decide (i < (6 : Int)) = true, (if true = true then true else false) = true, Con Try.prog (nat_lit 26) [] [D.v (Value.int IntKind.i64 (2 : Int)), D.v (Value.int IntKind.i64 (3 : Int)), D.v (Value.int IntKind.i64 i), D.v (Value.int IntKind.i64 a)] (D.tup [D.v (Value.int IntKind.i64 (bigF (2 : Int) (3 : Int) i a).fst), D.v (Value.int IntKind.i64 (bigF (2 : Int) (3 : Int) i a).snd)]) [] [], Value.int IntKind.i64 (2 : Int) = Value.int IntKind.i64 (2 : Int), Value.int IntKind.i64 (3 : Int) = Value.int IntKind.i64 (3 : Int), Value.int IntKind.i64 i = Value.int IntKind.i64 i, Value.int IntKind.i64 a = Value.int IntKind.i64 a, (2 : Int) ≠ (0 : Int), (a.tmod (2 : Int) == (1 : Int)) = true, Con Try.prog (nat_lit 26) [] [D.v (Value.int IntKind.i64 (3 : Int)), D.v (Value.int IntKind.i64 (2 : Int)), D.v (Value.int IntKind.i64 (bigF (2 : Int) (3 : Int) i a).fst), D.v (Value.int IntKind.i64 b)] (D.tup [D.v (Value.int IntKind.i64 (bigF (3 : Int) (2 : Int) (bigF (2 : Int) (3 : Int) i a).fst b).fst), D.v (Value.int IntKind.i64 (bigF (3 : Int) (2 : Int) (bigF (2 : Int) (3 : Int) i a).fst b).snd)]) [] [], Value.int IntKind.i64 (3 : Int) = Value.int IntKind.i64 (3 : Int), Value.int IntKind.i64 (2 : Int) = Value.int IntKind.i64 (2 : Int), Value.int IntKind.i64 (bigF (2 : Int) (3 : Int) i a).fst = Value.int IntKind.i64 (bigF (2 : Int) (3 : Int) i a).fst, Value.int IntKind.i64 b = Value.int IntKind.i64 b, Con Try.prog (nat_lit 26) [] [D.v (Value.int IntKind.i64 (2 : Int)), D.v (Value.int IntKind.i64 (3 : Int)), D.v (Value.int IntKind.i64 i), D.v (Value.int IntKind.i64 c)] (D.tup [D.v (Value.int IntKind.i64 (bigF (2 : Int) (3 : Int) i c).fst), D.v (Value.int IntKind.i64 (bigF (2 : Int) (3 : Int) i c).snd)]) [] [], Value.int IntKind.i64 (2 : Int) = Value.int IntKind.i64 (2 : Int), Value.int IntKind.i64 (3 : Int) = Value.int IntKind.i64 (3 : Int), Value.int IntKind.i64 i = Value.int IntKind.i64 i, Value.int IntKind.i64 c = Value.int IntKind.i64 c]) hm (by kernel_rfl) (by simp only [All, and_true] <;> and_intros <;> (first | rfl | exact c26 _ _ _ _ | (simp [*]; done) | (simp; omega) | (simp [*]; omega))) ?_)
        rw [ei]
        have eg : ((bigF 3 2 (bigF 2 3 i a).1 b).1 == (bigF 2 3 i c).1) = goodAt a b c i := by simp [goodAt, hOf, wOf, a1]
        rw [eg]
        have := ih (i + 1) (goodAt a b c i) (by omega) (by omega)
        simpa [allFrom] using this
      ·
        refine (Gets.path (sp := sp) (f := 300) (ch := [.g [(2,true)],.t,.f]) (keep := [0,1,5,6,7]) (k' := k28i) (s' := (st28i a b c ((bigF 2 3 (bigF 2 3 i a).1 b).1 == (bigF 2 3 i c).1) (IntKind.i64.wrap (i + 1)))) (ps := [decide (i < (6 : Int)) = true, (if true = true then true else false) = true, Con Try.prog (nat_lit 26) [] [D.v (Value.int IntKind.i64 (2 : Int)), D.v (Value.int IntKind.i64 (3 : Int)), D.v (Value.int IntKind.i64 i), D.v (Value.int IntKind.i64 a)] (D.tup [D.v (Value.int IntKind.i64 (bigF (2 : Int) (3 : Int) i a).fst), D.v (Value.int IntKind.i64 (bigF (2 : Int) (3 : Int) i a).snd)]) [] [], Value.int IntKind.i64 (2 : Int) = Value.int IntKind.i64 (2 : Int), Value.int IntKind.i64 (3 : Int) = Value.int IntKind.i64 (3 : Int), Value.int IntKind.i64 i = Value.int IntKind.i64 i, Value.int IntKind.i64 a = Value.int IntKind.i64 a, (2 : Int) ≠ (0 : Int), (a.tmod (2 : Int) == (1 : Int)) = false, Con Try.prog (nat_lit 26) [] [D.v (Value.int IntKind.i64 (2 : Int)), D.v (Value.int IntKind.i64 (3 : Int)), D.v (Value.int IntKind.i64 (bigF (2 : Int) (3 : Int) i a).fst), D.v (Value.int IntKind.i64 b)] (D.tup [D.v (Value.int IntKind.i64 (bigF (2 : Int) (3 : Int) (bigF (2 : Int) (3 : Int) i a).fst b).fst), D.v (Value.int IntKind.i64 (bigF (2 : Int) (3 : Int) (bigF (2 : Int) (3 : Int) i a).fst b).snd)]) [] [], Value.int IntKind.i64 (2 : Int) = Value.int IntKind.i64 (2 : Int), Value.int IntKind.i64 (3 : Int) = Value.int IntKind.i64 (3 : Int), Value.int IntKind.i64 (bigF (2 : Int) (3 : Int) i a).fst = Value.int IntKind.i64 (bigF (2 : Int) (3 : Int) i a).fst, Value.int IntKind.i64 b = Value.int IntKind.i64 b, Con Try.prog (nat_lit 26) [] [D.v (Value.int IntKind.i64 (2 : Int)), D.v (Value.int IntKind.i64 (3 : Int)), D.v (Value.int IntKind.i64 i), D.v (Value.int IntKind.i64 c)] (D.tup [D.v (Value.int IntKind.i64 (bigF (2 : Int) (3 : Int) i c).fst), D.v (Value.int IntKind.i64 (bigF (2 : Int) (3 : Int) i c).snd)]) [] [], Value.int IntKind.i64 (2 : Int) = Value.int IntKind.i64 (2 : Int), Value.int IntKind.i64 (3 : Int) = Value.int IntKind.i64 (3 : Int), Value.int IntKind.i64 i = Value.int IntKind.i64 i, Value.int IntKind.i64 c = Value.int IntKind.i64 c]) hm (by kernel_rfl) (by simp only [All, and_true] <;> and_intros <;> (first | rfl | exact c26 _ _ _ _ | (simp [*]; done) | (simp; omega) | (simp [*]; omega))) ?_)
        rw [ei]
        have eg : ((bigF 2 3 (bigF 2 3 i a).1 b).1 == (bigF 2 3 i c).1) = goodAt a b c i := by simp [goodAt, hOf, wOf, a1]
        rw [eg]
        have := ih (i + 1) (goodAt a b c i) (by omega) (by omega)
        simpa [allFrom] using this

theorem L28o (a b : Int) (ha : 0 ≤ a ∧ a < 8) (hb : 0 ≤ b ∧ b < 8) (m : Nat) : ∀ c : Int, 0 ≤ c → c + m = 8 → Gets Try.prog 0 k28o (st28o a b c) (Ends Try.prog 0 Try.f28.results.toList [none] (.v (.int .i64 (firstC a b m c)), [], [])) := by
  have ea : IntKind.i64.wrap (a + b) = a + b := wr (by omega) (by omega)
  induction m with
  | zero =>
    intro c c0 cm
    have c8 : ¬ c < 8 := by omega
    have e : ((.v (.int .i64 (firstC a b 0 c)) : D), ([] : List (Option Row)), ([] : List Row)) = (D.v (Value.int IntKind.i64 (-1 : Int)), [], []) := by simp [firstC]
    rw [e]
    exact (Gets.last (sp := sp) (f := 300) (ch := [.f]) (ps := [decide (c < (8 : Int)) = false]) hm (by kernel_rfl) (by simp only [All, and_true] <;> and_intros <;> (first | rfl | exact c26 _ _ _ _ | (simp [*]; done) | (simp; omega) | (simp [*]; omega))))
  | succ m ih =>
    intro c c0 cm
    have c8 : c < 8 := by omega
    refine (Gets.path (sp := sp) (f := 300) (ch := [.t]) (keep := [0,1,5,6,7]) (k' := k28i) (s' := (st28i a b c ((IntKind.i64.wrap (a + b)).tmod 2 == c.tmod 2) 0)) (ps := [decide (c < (8 : Int)) = true, (2 : Int) ≠ (0 : Int), (2 : Int) ≠ (0 : Int)]) hm (by kernel_rfl) (by simp only [All, and_true] <;> and_intros <;> (first | rfl | exact c26 _ _ _ _ | (simp [*]; done) | (simp; omega) | (simp [*]; omega))) ?_)
    rw [ea]
    have := L28i a b c _ ⟨c0, c8⟩ (ih (c + 1) (by omega) (by omega)) 6 0 ((a + b).tmod 2 == c.tmod 2) (by omega) (by omega)
    exact this

theorem c28 (a b : Int)  : Con Try.prog 28 [] [.v (.int .i64 a), .v (.int .i64 b)] (.v (.int .i64 (thenF a b))) [] [] := by
  refine con_of (how := [none]) (c := b28) Try.func28 (by kernel_rfl) (by kernel_rfl) ?_
  by_cases b1 : isB a = true
  rotate_left
  · have b0 : isB a = false := by simpa using b1
    have k0 : ¬ (0 ≤ a ∧ a < 8) := fun h => b1 (isB_iff.2 h)
    clear b1
    by_cases k1 : a < 0
    ·
      have e : ((.v (.int .i64 (thenF a b)) : D), ([] : List (Option Row)), ([] : List Row)) = (D.v (Value.int IntKind.i64 (-1 : Int)), [], []) := by simp [thenF, *]
      rw [e]
      exact (Gets.last (sp := sp) (f := 300) (ch := [.g [(2,true),(6,true),(10,true)],.t]) (ps := [decide (a < (0 : Int)) = true, true = true, true = true, true = true]) hm (by kernel_rfl) (by simp only [All, and_true] <;> and_intros <;> (first | rfl | exact c26 _ _ _ _ | (simp [*]; done) | (simp; omega) | (simp [*]; omega))))
    ·
      have k2 : a > 7 := by omega
      have e : ((.v (.int .i64 (thenF a b)) : D), ([] : List (Option Row)), ([] : List Row)) = (D.v (Value.int IntKind.i64 (-1 : Int)), [], []) := by simp [thenF, *]
      rw [e]
      exact (Gets.last (sp := sp) (f := 300) (ch := [.g [(2,false),(6,true),(10,true)],.t]) (ps := [decide (a < (0 : Int)) = false, (if false = true then true else decide (a > (7 : Int))) = true, true = true, true = true]) hm (by kernel_rfl) (by simp only [All, and_true] <;> and_intros <;> (first | rfl | exact c26 _ _ _ _ | (simp [*]; done) | (simp; omega) | (simp [*]; omega))))
  have ha := isB_iff.1 b1
  have ha0 : ¬ a < 0 := by omega
  have ha7 : ¬ a > 7 := by omega
  by_cases b2 : isB b = true
  rotate_left
  · have b0 : isB b = false := by simpa using b2
    have k0 : ¬ (0 ≤ b ∧ b < 8) := fun h => b2 (isB_iff.2 h)
    clear b2
    by_cases k1 : b < 0
    ·
      have e : ((.v (.int .i64 (thenF a b)) : D), ([] : List (Option Row)), ([] : List Row)) = (D.v (Value.int IntKind.i64 (-1 : Int)), [], []) := by simp [thenF, *]
      rw [e]
      exact (Gets.last (sp := sp) (f := 300) (ch := [.g [(2,false),(6,false),(10,true)],.t]) (ps := [decide (a < (0 : Int)) = false, (if false = true then true else decide (a > (7 : Int))) = false, (if false = true then true else decide (b < (0 : Int))) = true, true = true]) hm (by kernel_rfl) (by simp only [All, and_true] <;> and_intros <;> (first | rfl | exact c26 _ _ _ _ | (simp [*]; done) | (simp; omega) | (simp [*]; omega))))
    ·
      have k2 : b > 7 := by omega
      have e : ((.v (.int .i64 (thenF a b)) : D), ([] : List (Option Row)), ([] : List Row)) = (D.v (Value.int IntKind.i64 (-1 : Int)), [], []) := by simp [thenF, *]
      rw [e]
      exact (Gets.last (sp := sp) (f := 300) (ch := [.g [(2,false),(6,false),(10,false)],.t]) (ps := [decide (a < (0 : Int)) = false, (if false = true then true else decide (a > (7 : Int))) = false, (if false = true then true else decide (b < (0 : Int))) = false, (if false = true then true else decide (b > (7 : Int))) = true]) hm (by kernel_rfl) (by simp only [All, and_true] <;> and_intros <;> (first | rfl | exact c26 _ _ _ _ | (simp [*]; done) | (simp; omega) | (simp [*]; omega))))
  have hb := isB_iff.1 b2
  have hb0 : ¬ b < 0 := by omega
  have hb7 : ¬ b > 7 := by omega
  rw [← firstC_then ha hb]
  refine (Gets.path (sp := sp) (f := 300) (ch := [.g [(2,false),(6,false),(10,false)],.f]) (keep := [0,1,5]) (k' := k28o) (s' := (st28o a b 0)) (ps := [decide (a < (0 : Int)) = false, (if false = true then true else decide (a > (7 : Int))) = false, (if false = true then true else decide (b < (0 : Int))) = false, (if false = true then true else decide (b > (7 : Int))) = false]) hm (by kernel_rfl) (by simp only [All, and_true] <;> and_intros <;> (first | rfl | exact c26 _ _ _ _ | (simp [*]; done) | (simp; omega) | (simp [*]; omega))) ?_)
  exact L28o a b ha hb 8 0 (by omega) (by omega)

theorem L30 (a : Int) (m : Nat) : ∀ b : Int, 0 ≤ b → b + m = 8 → Gets Try.prog 0 k30 (st30 a b) (Ends Try.prog 0 Try.f30.results.toList [none] (.v (.int .i64 (firstB a m b)), [], [])) := by
  induction m with
  | zero =>
    intro b b0 bm
    have b8 : ¬ b < 8 := by omega
    have e : ((.v (.int .i64 (firstB a 0 b)) : D), ([] : List (Option Row)), ([] : List Row)) = (D.v (Value.int IntKind.i64 (-1 : Int)), [], []) := by simp [firstB]
    rw [e]
    exact (Gets.last (sp := sp) (f := 300) (ch := [.f]) (ps := [decide (b < (8 : Int)) = false]) hm (by kernel_rfl) (by simp only [All, and_true] <;> and_intros <;> (first | rfl | exact c28 _ _ | (simp [*]; done) | (simp; omega) | (simp [*]; omega))))
  | succ m ih =>
    intro b b0 bm
    have b8 : b < 8 := by omega
    by_cases h : thenF a b = 0
    ·
      have e : ((.v (.int .i64 (firstB a (m + 1) b)) : D), ([] : List (Option Row)), ([] : List Row)) = (D.v (Value.int IntKind.i64 b), [], []) := by simp [firstB, h]
      rw [e]
      exact (Gets.last (sp := sp) (f := 300) (ch := [.t,.t]) (ps := [decide (b < (8 : Int)) = true, Con Try.prog (nat_lit 28) [] [D.v (Value.int IntKind.i64 a), D.v (Value.int IntKind.i64 b)] (D.v (Value.int IntKind.i64 (thenF a b))) [] [], Value.int IntKind.i64 a = Value.int IntKind.i64 a, Value.int IntKind.i64 b = Value.int IntKind.i64 b, (thenF a b == (0 : Int)) = true]) hm (by kernel_rfl) (by simp only [All, and_true] <;> and_intros <;> (first | rfl | exact c28 _ _ | (simp [*]; done) | (simp; omega) | (simp [*]; omega))))
    ·
      have ev : firstB a (m + 1) b = firstB a m (b + 1) := by simp [firstB, h]
      rw [ev]
      refine (Gets.path (sp := sp) (f := 300) (ch := [.t,.f]) (keep := [0,3]) (k' := k30) (s' := (st30 a (IntKind.i64.wrap (b + 1)))) (ps := [decide (b < (8 : Int)) = true, Con Try.prog (nat_lit 28) [] [D.v (Value.int IntKind.i64 a), D.v (Value.int IntKind.i64 b)] (D.v (Value.int IntKind.i64 (thenF a b))) [] [], Value.int IntKind.i64 a = Value.int IntKind.i64 a, Value.int IntKind.i64 b = Value.int IntKind.i64 b, (thenF a b == (0 : Int)) = false]) hm (by kernel_rfl) (by simp only [All, and_true] <;> and_intros <;> (first | rfl | exact c28 _ _ | (simp [*]; done) | (simp; omega) | (simp [*]; omega))) ?_)
      rw [wr (by omega) (by omega)]
      exact ih (b + 1) (by omega) (by omega)

theorem c30 (a : Int)  : Con Try.prog 30 [] [.v (.int .i64 a)] (.v (.int .i64 (backF a))) [] [] := by
  refine con_of (how := [none]) (c := b30) Try.func30 (by kernel_rfl) (by kernel_rfl) ?_
  rw [← firstB_back]
  refine (Gets.path (sp := sp) (f := 300) (ch := []) (keep := [0,3]) (k' := k30) (s' := (st30 a 0)) (ps := []) hm (by kernel_rfl) (by simp only [All, and_true] <;> and_intros <;> (first | rfl | exact c28 _ _ | (simp [*]; done) | (simp; omega) | (simp [*]; omega))) ?_)
  exact L30 a 8 0 (by omega) (by omega)

theorem c24   : Con Try.prog 24 [] [] (.v (.bool true)) [] [] := by
  refine con_of (how := [none]) (c := b24) Try.func24 (by kernel_rfl) (by kernel_rfl) ?_
  have e : ((.v (.bool true) : D), ([] : List (Option Row)), ([] : List Row)) = (D.v (Value.bool (if true = true then backF (1 : Int) == (3 : Int) else false)), [], []) := by rfl
  rw [e]
  exact (Gets.last (sp := sp) (f := 300) (ch := [.g [(2,true),(6,true),(10,true)]]) (ps := [Con Try.prog (nat_lit 25) [] [D.v (Value.int IntKind.i64 (2 : Int)), D.v (Value.int IntKind.i64 (3 : Int)), D.v (Value.int IntKind.i64 (0 : Int)), D.v (Value.int IntKind.i64 (1 : Int))] (D.tup [D.v (Value.int IntKind.i64 (bigF (2 : Int) (3 : Int) (0 : Int) (1 : Int)).fst), D.v (Value.int IntKind.i64 (bigF (2 : Int) (3 : Int) (0 : Int) (1 : Int)).snd)]) [] [], Value.int IntKind.i64 (2 : Int) = Value.int IntKind.i64 (2 : Int), Value.int IntKind.i64 (3 : Int) = Value.int IntKind.i64 (3 : Int), Value.int IntKind.i64 (0 : Int) = Value.int IntKind.i64 (0 : Int), Value.int IntKind.i64 (1 : Int) = Value.int IntKind.i64 (1 : Int), ((bigF (2 : Int) (3 : Int) (0 : Int) (1 : Int)).snd == (0 : Int)) = true, (if true = true then (bigF (2 : Int) (3 : Int) (0 : Int) (1 : Int)).fst == (1 : Int) else false) = true, Con Try.prog (nat_lit 27) [] [D.v (Value.int IntKind.i64 (1 : Int)), D.v (Value.int IntKind.i64 (4 : Int))] (D.v (Value.int IntKind.i64 (thenF (1 : Int) (4 : Int)))) [] [], Value.int IntKind.i64 (1 : Int) = Value.int IntKind.i64 (1 : Int), Value.int IntKind.i64 (4 : Int) = Value.int IntKind.i64 (4 : Int), (if true = true then thenF (1 : Int) (4 : Int) == (7 : Int) else false) = true, Con Try.prog (nat_lit 29) [] [D.v (Value.int IntKind.i64 (1 : Int))] (D.v (Value.int IntKind.i64 (backF (1 : Int)))) [] [], Value.int IntKind.i64 (1 : Int) = Value.int IntKind.i64 (1 : Int)]) hm (by kernel_rfl) (by simp only [All, and_true] <;> and_intros <;> (first | rfl | exact c25 _ _ _ _ | exact c27 _ _ | exact c29 _ | decide)))

theorem c3 (h w x y z : Int)  : Con Try.prog 3 [] [.v (.int .i64 h), .v (.int .i64 w), .agg [.v (.int .i64 x), .v (.int .i64 y), .v (.int .i64 z)]] (.v (.bool true)) [] [] := by
  refine con_of (how := [none]) (c := b3) Try.func3 (by kernel_rfl) (by kernel_rfl) ?_
  have e : ((.v (.bool true) : D), ([] : List (Option Row)), ([] : List Row)) = (D.v (Value.bool (if true = true then backF y == backF y else false)), [], []) := by simp
  rw [e]
  exact (Gets.last (sp := sp) (f := 300) (ch := [.f,.g [(3,true),(8,true),(21,true)]]) (ps := [Con Try.prog (nat_lit 24) [] [] (D.v (Value.bool true)) [] [], (!true) = false, (0 : Int) ≤ (0 : Int), (0 : Int) < ↑(3 : Nat), (0 : Int) ≤ (1 : Int), (1 : Int) < ↑(3 : Nat), Con Try.prog (nat_lit 25) [] [D.v (Value.int IntKind.i64 h), D.v (Value.int IntKind.i64 w), D.v (Value.int IntKind.i64 x), D.v (Value.int IntKind.i64 y)] (D.tup [D.v (Value.int IntKind.i64 (bigF h w x y).fst), D.v (Value.int IntKind.i64 (bigF h w x y).snd)]) [] [], Value.int IntKind.i64 h = Value.int IntKind.i64 h, Value.int IntKind.i64 w = Value.int IntKind.i64 w, Value.int IntKind.i64 x = Value.int IntKind.i64 x, Value.int IntKind.i64 y = Value.int IntKind.i64 y, (0 : Int) ≤ (0 : Int), (0 : Int) < ↑(3 : Nat), (0 : Int) ≤ (1 : Int), (1 : Int) < ↑(3 : Nat), Con Try.prog (nat_lit 26) [] [D.v (Value.int IntKind.i64 h), D.v (Value.int IntKind.i64 w), D.v (Value.int IntKind.i64 x), D.v (Value.int IntKind.i64 y)] (D.tup [D.v (Value.int IntKind.i64 (bigF h w x y).fst), D.v (Value.int IntKind.i64 (bigF h w x y).snd)]) [] [], Value.int IntKind.i64 h = Value.int IntKind.i64 h, Value.int IntKind.i64 w = Value.int IntKind.i64 w, Value.int IntKind.i64 x = Value.int IntKind.i64 x, Value.int IntKind.i64 y = Value.int IntKind.i64 y, ((bigF h w x y).fst == (bigF h w x y).fst) = true, (if true = true then (bigF h w x y).snd == (bigF h w x y).snd else false) = true, (0 : Int) ≤ (1 : Int), (1 : Int) < ↑(3 : Nat), (0 : Int) ≤ (2 : Int), (2 : Int) < ↑(3 : Nat), Con Try.prog (nat_lit 27) [] [D.v (Value.int IntKind.i64 y), D.v (Value.int IntKind.i64 z)] (D.v (Value.int IntKind.i64 (thenF y z))) [] [], Value.int IntKind.i64 y = Value.int IntKind.i64 y, Value.int IntKind.i64 z = Value.int IntKind.i64 z, (0 : Int) ≤ (1 : Int), (1 : Int) < ↑(3 : Nat), (0 : Int) ≤ (2 : Int), (2 : Int) < ↑(3 : Nat), Con Try.prog (nat_lit 28) [] [D.v (Value.int IntKind.i64 y), D.v (Value.int IntKind.i64 z)] (D.v (Value.int IntKind.i64 (thenF y z))) [] [], Value.int IntKind.i64 y = Value.int IntKind.i64 y, Value.int IntKind.i64 z = Value.int IntKind.i64 z, (if true = true then thenF y z == thenF y z else false) = true, (0 : Int) ≤ (1 : Int), (1 : Int) < ↑(3 : Nat), Con Try.prog (nat_lit 29) [] [D.v (Value.int IntKind.i64 y)] (D.v (Value.int IntKind.i64 (backF y))) [] [], Value.int IntKind.i64 y = Value.int IntKind.i64 y, (0 : Int) ≤ (1 : Int), (1 : Int) < ↑(3 : Nat), Con Try.prog (nat_lit 30) [] [D.v (Value.int IntKind.i64 y)] (D.v (Value.int IntKind.i64 (backF y))) [] [], Value.int IntKind.i64 y = Value.int IntKind.i64 y]) hm (by kernel_rfl) (by simp only [All, and_true] <;> and_intros <;> (first | rfl | exact c24 | exact c25 _ _ _ _ | exact c26 _ _ _ _ | exact c27 _ _ | exact c28 _ _ | exact c29 _ | exact c30 _ | (simp; done))))

end Go.Proofs.YtnakmganodkliaaAm
