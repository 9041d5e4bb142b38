/- The contracts of slices.Repeat, of one number and at most 256 times. -/
import Derived.Test.YtnakmganodkliaaGrE
set_option linter.unusedVariables false
set_option linter.unusedSimpArgs false
set_option maxRecDepth 100000
namespace Go.Proofs.YtnakmganodkliaaAm
open Go

theorem wrU {n : Int} (h1 : 0 ≤ n) (h2 : n ≤ 18446744073709551615) : IntKind.u64.wrap n = n := by
  unfold IntKind.wrap
  simp only [IntKind.bits, IntKind.signed]
  simp
  omega

def mulHi (n : Int) : Int := (IntKind.u64.wrap (IntKind.u64.wrap (IntKind.u64.wrap (Int.fdiv (1 : Int) ((2 : Int) ^ 32) * n.fdiv ((2 : Int) ^ 32)) + (IntKind.u64.wrap (IntKind.u64.wrap (Int.fdiv (1 : Int) ((2 : Int) ^ 32) * IntKind.u64.wrap (↑(BitVec.ofInt 64 n &&& BitVec.ofInt 64 (4294967295 : Int)).toNat : Int)) + (IntKind.u64.wrap (IntKind.u64.wrap (↑1 : Int) * IntKind.u64.wrap (↑(BitVec.ofInt 64 n &&& BitVec.ofInt 64 (4294967295 : Int)).toNat : Int))).fdiv ((2 : Int) ^ 32))).fdiv ((2 : Int) ^ 32)) + (IntKind.u64.wrap (IntKind.u64.wrap (↑(BitVec.ofInt 64 (IntKind.u64.wrap (IntKind.u64.wrap (Int.fdiv (1 : Int) ((2 : Int) ^ 32) * IntKind.u64.wrap (↑(BitVec.ofInt 64 n &&& BitVec.ofInt 64 (4294967295 : Int)).toNat : Int)) + (IntKind.u64.wrap (IntKind.u64.wrap (↑1 : Int) * IntKind.u64.wrap (↑(BitVec.ofInt 64 n &&& BitVec.ofInt 64 (4294967295 : Int)).toNat : Int))).fdiv ((2 : Int) ^ 32))) &&& BitVec.ofInt 64 (4294967295 : Int)).toNat : Int) + IntKind.u64.wrap (IntKind.u64.wrap (↑1 : Int) * n.fdiv ((2 : Int) ^ 32)))).fdiv ((2 : Int) ^ 32)))

theorem mulHi_all : ((List.range 257).all fun m => mulHi ((m : Nat) : Int) == 0) = true := by kernel_rfl

theorem mulHi_zero {n : Int} (h0 : 0 ≤ n) (h1 : n ≤ 256) : mulHi n = 0 := by
  have h := List.all_eq_true.1 mulHi_all n.toNat (List.mem_range.2 (by omega))
  rw [beq_iff_eq, Int.toNat_of_nonneg h0] at h
  exact h

theorem d136 (n : Int) (h0 : 0 ≤ n) (h1 : n ≤ 256) : Con Try.prog 136 [] [.v (.int .u64 1), .v (.int .u64 n)] (.tup [.v (.int .u64 0), .v (.int .u64 (1 * n))]) [] [] := by
  refine con_vc (how := [none, none]) (c := g136) (K := (KK g136)) (spG true) (fun _ => []) (fun _ => []) 400 .stop (V := fun G R => ¬(32 : Int) < (0 : Int) ∧ ¬(32 : Int) < (0 : Int) ∧ ¬(32 : Int) < (0 : Int) ∧ ¬(32 : Int) < (0 : Int) ∧ ¬(32 : Int) < (0 : Int) ∧ R (D.tup [D.v (Value.int IntKind.u64 (IntKind.u64.wrap (IntKind.u64.wrap (IntKind.u64.wrap (Int.fdiv (1 : Int) ((2 : Int) ^ 32) * n.fdiv ((2 : Int) ^ 32)) + (IntKind.u64.wrap (IntKind.u64.wrap (Int.fdiv (1 : Int) ((2 : Int) ^ 32) * IntKind.u64.wrap (↑(BitVec.ofInt 64 n &&& BitVec.ofInt 64 (4294967295 : Int)).toNat : Int)) + (IntKind.u64.wrap (IntKind.u64.wrap (↑1 : Int) * IntKind.u64.wrap (↑(BitVec.ofInt 64 n &&& BitVec.ofInt 64 (4294967295 : Int)).toNat : Int))).fdiv ((2 : Int) ^ 32))).fdiv ((2 : Int) ^ 32)) + (IntKind.u64.wrap (IntKind.u64.wrap (↑(BitVec.ofInt 64 (IntKind.u64.wrap (IntKind.u64.wrap (Int.fdiv (1 : Int) ((2 : Int) ^ 32) * IntKind.u64.wrap (↑(BitVec.ofInt 64 n &&& BitVec.ofInt 64 (4294967295 : Int)).toNat : Int)) + (IntKind.u64.wrap (IntKind.u64.wrap (↑1 : Int) * IntKind.u64.wrap (↑(BitVec.ofInt 64 n &&& BitVec.ofInt 64 (4294967295 : Int)).toNat : Int))).fdiv ((2 : Int) ^ 32))) &&& BitVec.ofInt 64 (4294967295 : Int)).toNat : Int) + IntKind.u64.wrap (IntKind.u64.wrap (↑1 : Int) * n.fdiv ((2 : Int) ^ 32)))).fdiv ((2 : Int) ^ 32)))), D.v (Value.int IntKind.u64 (IntKind.u64.wrap ((1 : Int) * n)))], [], [])) hmG Try.func136 (by kernel_rfl) (by kernel_rfl) (fun G R => by kernel_rfl) ?_
  try dsimp only
  refine ⟨by omega, by omega, by omega, by omega, by omega, ?_⟩
  show (D.tup [D.v (.int .u64 (mulHi n)), D.v (.int .u64 (IntKind.u64.wrap (1 * n)))], ([] : List (Option Row)), ([] : List Row)) = _
  rw [mulHi_zero h0 h1, wrU (by omega) (by omega)]
theorem d120 (n : Int) (h0 : 0 ≤ n) (h1 : n ≤ 256) : Con Try.prog 120 [] [.v (.int .u64 1), .v (.int .u64 n)] (.tup [.v (.int .u64 0), .v (.int .u64 (1 * n))]) [] [] := by
  refine con_vc (how := [none, none]) (c := g120) (K := (KK g120)) (spG true) (fun _ => []) (fun _ => []) 400 (.f .stop) (V := fun G R => false = false ∧ Con Try.prog 136 [] [D.v (Value.int IntKind.u64 (1 : Int)), D.v (Value.int IntKind.u64 n)] (D.tup [D.v (Value.int IntKind.u64 (0 : Int)), D.v (Value.int IntKind.u64 ((1 : Int) * n))]) [] [] ∧ Value.int IntKind.u64 (1 : Int) = Value.int IntKind.u64 (1 : Int) ∧ Value.int IntKind.u64 n = Value.int IntKind.u64 n ∧ R (D.tup [D.v (Value.int IntKind.u64 (0 : Int)), D.v (Value.int IntKind.u64 ((1 : Int) * n))], [], [])) hmG Try.func120 (by kernel_rfl) (by kernel_rfl) (fun G R => by kernel_rfl) ?_
  try dsimp only
  repeat' (first | with_reducible refine And.intro ?_ ?_ | intro _)
  all_goals first | rfl | exact d136 n h0 h1
theorem rep_step (a : Int) (n k : Nat) (h0 : 0 < k) (h1 : k < n) : List.take (0 + k) (List.replicate k a ++ List.replicate (n - k) 0) ++ List.take (min (List.take (k - 0) (List.drop 0 (List.replicate k a ++ List.replicate (n - k) (0 : Int)))).length (n - k)) (List.take (k - 0) (List.drop 0 (List.replicate k a ++ List.replicate (n - k) 0))) ++ List.drop (0 + k + min (List.take (k - 0) (List.drop 0 (List.replicate k a ++ List.replicate (n - k) (0 : Int)))).length (n - k)) (List.replicate k a ++ List.replicate (n - k) 0)
    = List.replicate (k + min k (n - k)) a ++ List.replicate (n - (k + min k (n - k))) 0 := by
  have e1 : List.take k (List.replicate k a ++ List.replicate (n - k) (0 : Int)) = List.replicate k a := by simp
  simp only [Nat.zero_add, Nat.sub_zero, List.drop_zero, e1, List.length_replicate, List.take_replicate, List.replicate_append_replicate]
  rw [List.drop_append, List.drop_replicate, List.drop_replicate, List.length_replicate]
  rw [show k - (k + min k (n - k)) = 0 by omega, show min (min k (n - k)) k = min k (n - k) by omega, show n - k - (k + min k (n - k) - k) = n - (k + min k (n - k)) by omega]
  simp

theorem e91 (a : Int) (n : Nat) (hn : n ≤ 256) : ∀ (m k : Nat), 0 < k → k ≤ n → n - k ≤ m → GetsK Try.prog Try.f91.results.toList [none] (KK g91) 0 (.own 0 0 n (some n), [], [.data 3 (.int .i64) (List.replicate n a)]) 0 (stOf 48 [7,8] [.own 0 0 n (some n), .v (.int .i64 (k : Nat))] [.live (.data 3 (.int .i64) (List.replicate k a ++ List.replicate (n - k) 0))]) := by
  intro m
  induction m with
  | zero =>
    intro k k0 kn km
    have : k = n := by omega
    subst this
    refine gets_vc (spG true) (fun _ => [7,8]) (fun _ => []) 400 (.fork (.hd 0) .stop) (V := fun G R => (decide ((↑k : Int) < (↑k : Int)) = true → (0 : Int) ≤ (↑k : Int) ∧ (↑k : Int) ≤ (↑k : Int) ∧ (↑k : Int) ≤ (↑k : Int) ∧ 0 + k ≤ (List.replicate k a ++ List.replicate (k - k) (0 : Int)).length ∧ (0 : Int) ≤ (0 : Int) ∧ (0 : Int) ≤ (↑k : Int) ∧ (↑k : Int) ≤ (↑k : Int) ∧ 0 + k ≤ (List.replicate k a ++ List.replicate (k - k) (0 : Int)).length ∧ SameK (KK g91 0) (KK g91 0) ∧ G 0 (stOf 48 [7, 8] [D.own 0 0 k (some k), D.v (Value.int IntKind.i64 (IntKind.i64.wrap ((↑k : Int) + (↑(min (List.take ((↑k : Int).toNat - 0) (List.drop 0 (List.replicate k a ++ List.replicate (k - k) (0 : Int)))).length ((↑k : Int).toNat - (↑k : Int).toNat)) : Int))))] [Slot.live (Row.data 3 (Ty.int IntKind.i64) (List.take (0 + (↑k : Int).toNat) (List.replicate k a ++ List.replicate (k - k) (0 : Int)) ++ List.take (min (List.take ((↑k : Int).toNat - 0) (List.drop 0 (List.replicate k a ++ List.replicate (k - k) (0 : Int)))).length ((↑k : Int).toNat - (↑k : Int).toNat)) (List.take ((↑k : Int).toNat - 0) (List.drop 0 (List.replicate k a ++ List.replicate (k - k) (0 : Int)))) ++ List.drop (0 + (↑k : Int).toNat + min (List.take ((↑k : Int).toNat - 0) (List.drop 0 (List.replicate k a ++ List.replicate (k - k) (0 : Int)))).length ((↑k : Int).toNat - (↑k : Int).toNat)) (List.replicate k a ++ List.replicate (k - k) (0 : Int))))])) ∧ (decide ((↑k : Int) < (↑k : Int)) = false → R (D.own 0 0 k (some k), [], [Row.data 3 (Ty.int IntKind.i64) (List.replicate k a ++ List.replicate (k - k) (0 : Int))]))) hmG (fun G R => by kernel_rfl) ?_
    try dsimp only
    simp (disch := omega) only [wrG, sameK_iff, true_and, and_true, decide_eq_true_eq, decide_eq_false_iff_not, ne_eq, not_false_eq_true, Bool.false_eq_true, Bool.true_eq_false, false_implies, true_implies, Ty.dflt, reduceCtorEq, beq_iff_eq, bne_iff_ne, beq_eq_false_iff_ne, bne_eq_false_iff_eq, Bool.not_eq_true, Bool.not_eq_eq_eq_not, Bool.not_true, Bool.not_false, gt_iff_lt, ge_iff_le, Int.not_lt, Int.not_le]
    repeat' (first | with_reducible refine And.intro ?_ ?_ | intro _)
    all_goals first | omega | (simp; done) | skip
  | succ m ih =>
    intro k k0 kn km
    refine gets_vc (spG true) (fun _ => [7,8]) (fun _ => []) 400 (.fork (.hd 0) .stop) (V := fun G R => (decide ((↑k : Int) < (↑n : Int)) = true → (0 : Int) ≤ (↑k : Int) ∧ (↑k : Int) ≤ (↑n : Int) ∧ (↑n : Int) ≤ (↑n : Int) ∧ 0 + n ≤ (List.replicate k a ++ List.replicate (n - k) (0 : Int)).length ∧ (0 : Int) ≤ (0 : Int) ∧ (0 : Int) ≤ (↑k : Int) ∧ (↑k : Int) ≤ (↑n : Int) ∧ 0 + n ≤ (List.replicate k a ++ List.replicate (n - k) (0 : Int)).length ∧ SameK (KK g91 0) (KK g91 0) ∧ G 0 (stOf 48 [7, 8] [D.own 0 0 n (some n), D.v (Value.int IntKind.i64 (IntKind.i64.wrap ((↑k : Int) + (↑(min (List.take ((↑k : Int).toNat - 0) (List.drop 0 (List.replicate k a ++ List.replicate (n - k) (0 : Int)))).length ((↑n : Int).toNat - (↑k : Int).toNat)) : Int))))] [Slot.live (Row.data 3 (Ty.int IntKind.i64) (List.take (0 + (↑k : Int).toNat) (List.replicate k a ++ List.replicate (n - k) (0 : Int)) ++ List.take (min (List.take ((↑k : Int).toNat - 0) (List.drop 0 (List.replicate k a ++ List.replicate (n - k) (0 : Int)))).length ((↑n : Int).toNat - (↑k : Int).toNat)) (List.take ((↑k : Int).toNat - 0) (List.drop 0 (List.replicate k a ++ List.replicate (n - k) (0 : Int)))) ++ List.drop (0 + (↑k : Int).toNat + min (List.take ((↑k : Int).toNat - 0) (List.drop 0 (List.replicate k a ++ List.replicate (n - k) (0 : Int)))).length ((↑n : Int).toNat - (↑k : Int).toNat)) (List.replicate k a ++ List.replicate (n - k) (0 : Int))))])) ∧ (decide ((↑k : Int) < (↑n : Int)) = false → R (D.own 0 0 n (some n), [], [Row.data 3 (Ty.int IntKind.i64) (List.replicate k a ++ List.replicate (n - k) (0 : Int))]))) hmG (fun G R => by kernel_rfl) ?_
    try dsimp only
    refine ⟨fun h => ?_, fun h => ?_⟩
    · rw [decide_eq_true_eq] at h
      have hk : k < n := by omega
      refine ⟨by omega, by omega, by omega, by simp; omega, by omega, by omega, by omega, by simp; omega, SameK.same _, ?_⟩
      have e := rep_step a n k k0 hk
      have e2 : (List.take (k - 0) (List.drop 0 (List.replicate k a ++ List.replicate (n - k) (0 : Int)))).length = k := by simp
      simp only [Int.toNat_natCast]
      rw [e, e2, show IntKind.i64.wrap ((k : Int) + ((min k (n - k) : Nat) : Int)) = ((k + min k (n - k) : Nat) : Int) by rw [wrG (by omega) (by omega)]; omega]
      exact ih (k + min k (n - k)) (by omega) (by omega) (by omega)
    · rw [decide_eq_false_iff_not] at h
      have : k = n := by omega
      subst this
      simp

theorem d91_cap (a n : Int) (h0 : 1 ≤ n) (h1 : n ≤ 256) : Con Try.prog 91 [] [.sl false false (.int .i64) [a], .v (.int .i64 n)] (.own 0 0 n.toNat (some n.toNat)) [] [.data 3 (.int .i64) (List.replicate n.toNat a)] := by
  refine con_vc (how := [none]) (c := g91) (K := (KK g91)) (spG true) (fun _ => [7,8]) (fun _ => []) 400 (.f (.f (.f (.hd 0)))) (V := fun G R => decide (n < (0 : Int)) = false ∧ Con Try.prog 120 [] [D.v (Value.int IntKind.u64 (IntKind.u64.wrap (↑1 : Int))), D.v (Value.int IntKind.u64 (IntKind.u64.wrap n))] (D.tup [D.v (Value.int IntKind.u64 (0 : Int)), D.v (Value.int IntKind.u64 (IntKind.u64.wrap (↑1 : Int) * IntKind.u64.wrap n))]) [] [] ∧ Value.int IntKind.u64 (IntKind.u64.wrap (↑1 : Int)) = Value.int IntKind.u64 (IntKind.u64.wrap (↑1 : Int)) ∧ Value.int IntKind.u64 (IntKind.u64.wrap n) = Value.int IntKind.u64 (IntKind.u64.wrap n) ∧ decide ((0 : Int) > (0 : Int)) = false ∧ decide (IntKind.u64.wrap (↑1 : Int) * IntKind.u64.wrap n > (9223372036854775807 : Int)) = false ∧ (0 : Int) ≤ IntKind.i64.wrap (IntKind.u64.wrap (↑1 : Int) * IntKind.u64.wrap n) ∧ IntKind.i64.wrap (IntKind.u64.wrap (↑1 : Int) * IntKind.u64.wrap n) ≤ IntKind.i64.wrap (IntKind.u64.wrap (↑1 : Int) * IntKind.u64.wrap n) ∧ IntKind.i64.wrap (IntKind.u64.wrap (↑1 : Int) * IntKind.u64.wrap n) ≤ (9223372036854775807 : Int) ∧ (IntKind.i64.wrap (IntKind.u64.wrap (↑1 : Int) * IntKind.u64.wrap n)).toNat * 8 ≤ 281474976710656 ∧ SameK (KK g91 0) (KK g91 0) ∧ G 0 (stOf 48 [7, 8] [D.own 0 0 (IntKind.i64.wrap (IntKind.u64.wrap (↑1 : Int) * IntKind.u64.wrap n)).toNat (some (IntKind.i64.wrap (IntKind.u64.wrap (↑1 : Int) * IntKind.u64.wrap n)).toNat), D.v (Value.int IntKind.i64 (↑(min 1 (IntKind.i64.wrap (IntKind.u64.wrap (↑1 : Int) * IntKind.u64.wrap n)).toNat) : Int))] [Slot.live (Row.data 3 (Ty.int IntKind.i64) (List.take 0 (List.replicate (IntKind.i64.wrap (IntKind.u64.wrap (↑1 : Int) * IntKind.u64.wrap n)).toNat (0 : Int)) ++ List.take (min 1 (IntKind.i64.wrap (IntKind.u64.wrap (↑1 : Int) * IntKind.u64.wrap n)).toNat) [a] ++ List.drop (0 + min 1 (IntKind.i64.wrap (IntKind.u64.wrap (↑1 : Int) * IntKind.u64.wrap n)).toNat) (List.replicate (IntKind.i64.wrap (IntKind.u64.wrap (↑1 : Int) * IntKind.u64.wrap n)).toNat (0 : Int))))])) hmG Try.func91 (by kernel_rfl) (by kernel_rfl) (fun G R => by kernel_rfl) ?_
  try dsimp only
  have e1 : IntKind.u64.wrap ((1 : Nat) : Int) = 1 := rfl
  have e2 : IntKind.u64.wrap n = n := wrU (by omega) (by omega)
  have e3 : IntKind.i64.wrap (1 * n) = n := by rw [wrG (by omega) (by omega)]; omega
  have e4 : min 1 n.toNat = 1 := by omega
  have hg := e91 a n.toNat (by omega) 256 1 (by omega) (by omega) (by omega)
  have e5 : IntKind.u64.wrap 1 = 1 := rfl
  have er : (List.take 0 (List.replicate n.toNat (0 : Int)) ++ List.take 1 [a] ++ List.drop (0 + 1) (List.replicate n.toNat 0)) = List.replicate 1 a ++ List.replicate (n.toNat - 1) 0 := by simp
  simp only [e1, e2, e3, e4, e5, er]
  repeat' (first | with_reducible refine And.intro ?_ ?_ | intro _)
  all_goals first | rfl | (simp; omega) | omega | trivial | exact d120 n (by omega) h1 | exact hg | (simp; omega) | skip
theorem d91 (a n : Int) (h0 : 1 ≤ n) (h1 : n ≤ 256) : Con Try.prog 91 [] [.sl false false (.int .i64) [a], .v (.int .i64 n)] (.own 0 0 n.toNat none) [] [.data 3 (.int .i64) (List.replicate n.toNat a)] :=
  con_forget (by simp) (d91_cap a n h0 h1)


end Go.Proofs.YtnakmganodkliaaAm
