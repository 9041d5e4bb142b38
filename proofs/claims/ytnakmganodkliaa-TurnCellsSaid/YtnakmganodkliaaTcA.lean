/- The contract of the law on turned cells. -/
import Derived.Test.YtnakmganodkliaaTcS
set_option linter.unusedVariables false
set_option linter.unusedSimpArgs false
set_option maxRecDepth 10000
namespace Go.Proofs.YtnakmganodkliaaAm
open Go


theorem L4 (h w k : Int) (h1 : 1 ≤ h ∧ h ≤ 16) (w1 : 1 ≤ w ∧ w ≤ 16) (k1 : 0 ≤ k ∧ k < 8) (n : Nat) (hn : (n : Int) = h * w) (r : Nat) : ∀ (i : Int) (xs : List Bool), 0 ≤ i → i + r = h * w → xs.length = n →
    (∀ j : Nat, xs[j]? = some true → ∃ i', 0 ≤ i' ∧ i' < i ∧ placeF h w i' k = j) → Gets Try.prog 0 k4 (st4 h w k n (h * w) xs i) (Ends Try.prog 0 Try.f4.results.toList [none] (.v (.bool true), [], [])) := by
  have hb := mul_le h1 w1
  induction r with
  | zero =>
    intro i xs i0 ir hx hJ
    have ei : i = h * w := by omega
    have hil : ¬ i < h * w := by omega
    have em : IntKind.i64.wrap (h * w) = h * w := wr (by omega) (by omega)
    have hb := big_size h1 w1 k1
    have e : ((.v (.bool true) : D), ([] : List (Option Row)), ([] : List Row)) = (D.v (Value.bool ((bigF h w (IntKind.i64.wrap (h * w)) k).snd == (51 : Int))), [], []) := by rw [em, hb]; rfl
    rw [e]
    exact (Gets.last (sp := sp) (f := 300) (ch := [.f]) (ps := [decide (i < h * w) = false, Con Try.prog (nat_lit 25) [] [D.v (Value.int IntKind.i64 h), D.v (Value.int IntKind.i64 w), D.v (Value.int IntKind.i64 (IntKind.i64.wrap (h * w))), D.v (Value.int IntKind.i64 k)] (D.tup [D.v (Value.int IntKind.i64 (bigF h w (IntKind.i64.wrap (h * w)) k).fst), D.v (Value.int IntKind.i64 (bigF h w (IntKind.i64.wrap (h * w)) k).snd)]) [] [], Value.int IntKind.i64 h = Value.int IntKind.i64 h, Value.int IntKind.i64 w = Value.int IntKind.i64 w, Value.int IntKind.i64 (IntKind.i64.wrap (h * w)) = Value.int IntKind.i64 (IntKind.i64.wrap (h * w)), Value.int IntKind.i64 k = Value.int IntKind.i64 k]) hm (by kernel_rfl) (by simp only [All, and_true] <;> and_intros <;> (first | rfl | exact c25 _ _ _ _ | (rw [hb]; rfl) | assumption | (simp [*]; done) | (simp; omega) | (simp [*]; omega))))
  | succ r ih =>
    intro i xs i0 ir hx hJ
    have il : i < h * w := by omega
    have hb := big_in h1 w1 ⟨i0, il⟩ k1
    have hp := place_in h1 w1 ⟨i0, il⟩ k1
    have hpn : (placeF h w i k).toNat < n := by omega
    have hfree : xs[(placeF h w i k).toNat]? = some false := by
      rw [List.getElem?_eq_getElem (by omega)]
      cases hv : xs[(placeF h w i k).toNat]'(by omega) with
      | false => rfl
      | true =>
        obtain ⟨i', g1, g2, g3⟩ := hJ (placeF h w i k).toNat (by rw [List.getElem?_eq_getElem (by omega), hv])
        have := place_inj h1 w1 ⟨g1, by omega⟩ ⟨i0, il⟩ k1 (by omega)
        omega
    refine (Gets.path (sp := sp) (f := 300) (ch := [.t,.g [(2,false),(6,false),(12,false)],.f]) (keep := [0,1,2,7,29,30]) (k' := k4) (s' := (st4 h w k n (h * w) (xs.set (0 + (bigF h w i k).1.toNat) true) (IntKind.i64.wrap (i + 1)))) (ps := [decide (i < h * w) = true, Con Try.prog (nat_lit 25) [] [D.v (Value.int IntKind.i64 h), D.v (Value.int IntKind.i64 w), D.v (Value.int IntKind.i64 i), D.v (Value.int IntKind.i64 k)] (D.tup [D.v (Value.int IntKind.i64 (bigF h w i k).fst), D.v (Value.int IntKind.i64 (bigF h w i k).snd)]) [] [], Value.int IntKind.i64 h = Value.int IntKind.i64 h, Value.int IntKind.i64 w = Value.int IntKind.i64 w, Value.int IntKind.i64 i = Value.int IntKind.i64 i, Value.int IntKind.i64 k = Value.int IntKind.i64 k, ((bigF h w i k).snd != (0 : Int)) = false, (if false = true then true else decide ((bigF h w i k).fst < (0 : Int))) = false, (if false = true then true else decide ((bigF h w i k).fst ≥ ↑n)) = false, (0 : Int) ≤ (bigF h w i k).fst, (bigF h w i k).fst < ↑n, (0 : Nat) + (bigF h w i k).fst.toNat < xs.length, (if false = true then true else xs.getD ((0 : Nat) + (bigF h w i k).fst.toNat) Ty.bool.dflt) = false, (0 : Int) ≤ (bigF h w i k).fst, (bigF h w i k).fst < ↑n, (0 : Nat) + (bigF h w i k).fst.toNat < xs.length]) hm (by kernel_rfl) (by simp only [All, and_true]; rw [hb]; and_intros <;> (first | rfl | exact (hb ▸ c25 h w i k) | (simp [*]; done) | (simp; omega) | (simp [hfree, List.getD_eq_getElem?_getD]; done) | (simp [*]; omega))) ?_)
    rw [hb, wr (by omega) (by omega), Nat.zero_add]
    refine ih (i + 1) _ (by omega) (by omega) (by simpa using hx) ?_
    intro j hj
    rw [List.getElem?_set] at hj
    split at hj
    · rename_i ej
      exact ⟨i, i0, by omega, by omega⟩
    · obtain ⟨i', g1, g2, g3⟩ := hJ j hj
      exact ⟨i', g1, by omega, g3⟩

theorem c4 (h w k : Int) : Con Try.prog 4 [] [.v (.int .i64 h), .v (.int .i64 w), .v (.int .i64 k)] (.v (.bool true)) [] [] := by
  refine con_of (how := [none]) (c := b4) Try.func4 (by kernel_rfl) (by kernel_rfl) ?_
  have h1 := m15_in h
  have w1 := m15_in w
  have k1 := m7_in k
  have hb := mul_le h1 w1
  have h0 : 0 ≤ m15 h * m15 w := Int.mul_nonneg (by omega) (by omega)
  have em : IntKind.i64.wrap (m15 h * m15 w) = m15 h * m15 w := wr (by omega) (by omega)
  have eb : Try.prog.bytesOf 4 = 1 := by kernel_rfl
  refine (Gets.path (sp := sp) (f := 300) (ch := [.f]) (keep := [0,1,2,7,29,30]) (k' := k4) (s' := (st4 (m15 h) (m15 w) (m7 k) (IntKind.i64.wrap (m15 h * m15 w)).toNat (IntKind.i64.wrap (m15 h * m15 w)) (List.replicate (IntKind.i64.wrap (m15 h * m15 w)).toNat false) 0)) (ps := [Con Try.prog (nat_lit 24) [] [] (D.v (Value.bool true)) [] [], (!true) = false, (0 : Int) ≤ IntKind.i64.wrap (m15 h * m15 w), IntKind.i64.wrap (m15 h * m15 w) ≤ IntKind.i64.wrap (m15 h * m15 w), IntKind.i64.wrap (m15 h * m15 w) ≤ (9223372036854775807 : Int), (IntKind.i64.wrap (m15 h * m15 w)).toNat * Try.prog.bytesOf (4 : Nat) ≤ (281474976710656 : Nat)]) hm (by kernel_rfl) (by simp only [All, and_true]; rw [em, eb]; and_intros <;> (first | rfl | exact c24 | omega)) ?_)
  rw [em]
  exact L4 _ _ _ h1 w1 k1 _ (by omega) (m15 h * m15 w).toNat 0 _ (by omega) (by omega) (by simp) (fun j hj => by simp [List.getElem?_replicate] at hj)

end Go.Proofs.YtnakmganodkliaaAm
