/- Sets of numbers: contracts. -/
import Derived.Test.YtnakmganodkliaaDoorMaA0
set_option linter.unusedVariables false
set_option linter.unusedSimpArgs false
set_option maxRecDepth 100000
namespace Go.Proofs.YtnakmganodkliaaDoorAm
open Go

theorem d73 (m : Nat) (hm : m < W64) (h0 : m ≠ 0) : Con Tryd.prog 73 [] [u64 m] ((.v (.int .i64 (tzI m)))) [] [] := by
  refine con_vc (how := [none]) (c := m73) (K := (KK m73)) spM (fun _ => []) (fun _ => []) 400 (.fork .stop .stop) (V := fun G R => (((↑m : Int) == (0 : Int)) = true → R (D.v (Value.int IntKind.i64 (64 : Int)), [], [])) ∧ (((↑m : Int) == (0 : Int)) = false → ¬(58 : Int) < (0 : Int) ∧ (0 : Int) ≤ (IntKind.u64.wrap (IntKind.u64.wrap (↑(BitVec.ofInt 64 (↑m : Int) &&& BitVec.ofInt 64 (IntKind.u64.wrap ((0 : Int) - (↑m : Int)))).toNat : Int) * (285870213051353865 : Int))).fdiv ((2 : Int) ^ 58) ∧ (IntKind.u64.wrap (IntKind.u64.wrap (↑(BitVec.ofInt 64 (↑m : Int) &&& BitVec.ofInt 64 (IntKind.u64.wrap ((0 : Int) - (↑m : Int)))).toNat : Int) * (285870213051353865 : Int))).fdiv ((2 : Int) ^ 58) < (↑64 : Int) ∧ R (D.v (Value.int IntKind.i64 (IntKind.i64.wrap ([(0 : Int), (1 : Int), (56 : Int), (2 : Int), (57 : Int), (49 : Int), (28 : Int), (3 : Int), (61 : Int), (58 : Int), (42 : Int), (50 : Int), (38 : Int), (29 : Int), (17 : Int), (4 : Int), (62 : Int), (47 : Int), (59 : Int), (36 : Int), (45 : Int), (43 : Int), (51 : Int), (22 : Int), (53 : Int), (39 : Int), (33 : Int), (30 : Int), (24 : Int), (18 : Int), (12 : Int), (5 : Int), (63 : Int), (55 : Int), (48 : Int), (27 : Int), (60 : Int), (41 : Int), (37 : Int), (16 : Int), (46 : Int), (35 : Int), (44 : Int), (21 : Int), (52 : Int), (32 : Int), (23 : Int), (11 : Int), (54 : Int), (26 : Int), (40 : Int), (15 : Int), (34 : Int), (20 : Int), (31 : Int), (10 : Int), (25 : Int), (14 : Int), (19 : Int), (9 : Int), (13 : Int), (8 : Int), (7 : Int), (6 : Int)].getD ((IntKind.u64.wrap (IntKind.u64.wrap (↑(BitVec.ofInt 64 (↑m : Int) &&& BitVec.ofInt 64 (IntKind.u64.wrap ((0 : Int) - (↑m : Int)))).toNat : Int) * (285870213051353865 : Int))).fdiv ((2 : Int) ^ 58)).toNat (0 : Int)))), [], []))) hmG Tryd.func73 (by kernel_rfl) (by kernel_rfl) (fun G R => by kernel_rfl) ?_
  try dsimp only
  have hz := fun p hp => tz_at hm h0 (p := p) hp
  refine ⟨fun h => ?_, fun _ => ⟨by omega, (hz _ rfl).1, (hz _ rfl).2.1, ?_⟩⟩
  · rw [beq_iff_eq] at h; omega
  · have h3 := (hz _ rfl).2.2
    have hb : 0 ≤ tzI m ∧ tzI m ≤ 64 := by
      obtain ⟨t, ht, _, hl⟩ := list_step h0 hm
      unfold tzI
      rw [Int.toNat_natCast, hl]
      show 0 ≤ (t : Int) ∧ (t : Int) ≤ 64
      omega
    show (D.v (.int .i64 (IntKind.i64.wrap (tab64.getD _ 0))), _, _) = _
    rw [h3, wrG (by omega) (by omega)]

theorem e74 (i : Int) (i1 : i < 64) (n : Nat) : ∀ (k b : Nat), (k : Int) + n = i → b = 2 ^ k → GetsK Tryd.prog Tryd.f74.results.toList [none] (KK m74) 0 (.v (.int .u64 ((2 ^ i.toNat : Nat) : Int)), [], []) 0 (stOf 19 [0,3,4] [.v (.int .i64 i), .v (.int .u64 (b : Int)), .v (.int .i64 (k : Int))] []) := by
  induction n with
  | zero =>
    intro k b hk hb
    have e : i.toNat = k := by omega
    rw [e, ← hb]
    refine gets_vc spM (fun _ => [0,3,4]) (fun _ => []) 400 (.fork (.hd 0) .stop) (V := fun G R => (decide ((↑k : Int) < i) = true → SameK (KK m74 0) (KK m74 0) ∧ G 0 (stOf 19 [0, 3, 4] [D.v (Value.int IntKind.i64 i), D.v (Value.int IntKind.u64 (IntKind.u64.wrap ((↑b : Int) * (2 : Int)))), D.v (Value.int IntKind.i64 (IntKind.i64.wrap ((↑k : Int) + (1 : Int))))] [])) ∧ (decide ((↑k : Int) < i) = false → R (D.v (Value.int IntKind.u64 (↑b : Int)), [], []))) hmG (fun G R => by kernel_rfl) ?_
    simp (disch := omega) only [wrG, sameK_iff, true_and, and_true, decide_eq_true_eq, decide_eq_false_iff_not, ne_eq, not_false_eq_true, Bool.false_eq_true, Bool.true_eq_false, false_implies, true_implies, Ty.dflt, reduceCtorEq, beq_iff_eq, bne_iff_ne, beq_eq_false_iff_ne, bne_eq_false_iff_eq, Bool.not_eq_true, Bool.not_eq_eq_eq_not, Bool.not_true, Bool.not_false, gt_iff_lt, ge_iff_le, Int.not_lt, Int.not_le]
    repeat' (first | with_reducible refine And.intro ?_ ?_ | intro _)
    all_goals first | rfl | omega | assumption | trivial | (exfalso; simp_all; done) | skip
  | succ n ih =>
    intro k b hk hb
    have hlt : 2 ^ (k + 1) < W64 := u64_mask (by omega)
    have e : b * 2 = 2 ^ (k + 1) := by rw [hb, Nat.pow_succ]
    rw [← e] at hlt
    have hlt' : b * 2 < 18446744073709551616 := hlt
    have hx := ih (k + 1) (b * 2) (by omega) e
    have hw : IntKind.u64.wrap ((b : Int) * 2) = ((b * 2 : Nat) : Int) := by
      rw [wrU (by omega) (by omega)]
      simp
    have hk1 : IntKind.i64.wrap ((k : Int) + 1) = ((k + 1 : Nat) : Int) := by rw [wrG (by omega) (by omega)]; simp
    refine gets_vc spM (fun _ => [0,3,4]) (fun _ => []) 400 (.fork (.hd 0) .stop) (V := fun G R => (decide ((↑k : Int) < i) = true → SameK (KK m74 0) (KK m74 0) ∧ G 0 (stOf 19 [0, 3, 4] [D.v (Value.int IntKind.i64 i), D.v (Value.int IntKind.u64 (IntKind.u64.wrap ((↑b : Int) * (2 : Int)))), D.v (Value.int IntKind.i64 (IntKind.i64.wrap ((↑k : Int) + (1 : Int))))] [])) ∧ (decide ((↑k : Int) < i) = false → R (D.v (Value.int IntKind.u64 (↑b : Int)), [], []))) hmG (fun G R => by kernel_rfl) ?_
    rw [hw, hk1]
    simp (disch := omega) only [wrG, sameK_iff, true_and, and_true, decide_eq_true_eq, decide_eq_false_iff_not, ne_eq, not_false_eq_true, Bool.false_eq_true, Bool.true_eq_false, false_implies, true_implies, Ty.dflt, reduceCtorEq, beq_iff_eq, bne_iff_ne, beq_eq_false_iff_ne, bne_eq_false_iff_eq, Bool.not_eq_true, Bool.not_eq_eq_eq_not, Bool.not_true, Bool.not_false, gt_iff_lt, ge_iff_le, Int.not_lt, Int.not_le]
    repeat' (first | with_reducible refine And.intro ?_ ?_ | intro _)
    all_goals first | rfl | omega | assumption | trivial | (exfalso; simp_all; done) | skip

theorem d74 (i : Int)  : Con Tryd.prog 74 [] [.v (.int .i64 i)] ((.v (.int .u64 (bitN i : Nat)))) [] [] := by
  refine con_vc (how := [none]) (c := m74) (K := (KK m74)) spM (fun _ => [0,3,4]) (fun _ => []) 400 (.fork (.t .stop) (.fork .stop (.hd 0))) (V := fun G R => (decide (i < (0 : Int)) = true → true = true ∧ R (D.v (Value.int IntKind.u64 (0 : Int)), [], [])) ∧ (decide (i < (0 : Int)) = false → (decide (i > (63 : Int)) = true → R (D.v (Value.int IntKind.u64 (0 : Int)), [], [])) ∧ (decide (i > (63 : Int)) = false → SameK (KK m74 0) (KK m74 0) ∧ G 0 (stOf 19 [0, 3, 4] [D.v (Value.int IntKind.i64 i), D.v (Value.int IntKind.u64 (1 : Int)), D.v (Value.int IntKind.i64 (0 : Int))] [])))) hmG Tryd.func74 (by kernel_rfl) (by kernel_rfl) (fun G R => by kernel_rfl) ?_
  try dsimp only
  unfold bitN
  by_cases h : i < 0 ∨ 63 < i
  · rw [if_pos h]
    simp (disch := omega) only [wrG, sameK_iff, true_and, and_true, decide_eq_true_eq, decide_eq_false_iff_not, ne_eq, not_false_eq_true, Bool.false_eq_true, Bool.true_eq_false, false_implies, true_implies, Ty.dflt, reduceCtorEq, beq_iff_eq, bne_iff_ne, beq_eq_false_iff_ne, bne_eq_false_iff_eq, Bool.not_eq_true, Bool.not_eq_eq_eq_not, Bool.not_true, Bool.not_false, gt_iff_lt, ge_iff_le, Int.not_lt, Int.not_le]
    repeat' (first | with_reducible refine And.intro ?_ ?_ | intro _)
    all_goals first | rfl | omega | assumption | trivial | (exfalso; simp_all; done) | (exfalso; omega) | skip
  · rw [if_neg h]
    have hx := e74 i (by omega) i.toNat 0 1 (by omega) rfl
    simp (disch := omega) only [wrG, sameK_iff, true_and, and_true, decide_eq_true_eq, decide_eq_false_iff_not, ne_eq, not_false_eq_true, Bool.false_eq_true, Bool.true_eq_false, false_implies, true_implies, Ty.dflt, reduceCtorEq, beq_iff_eq, bne_iff_ne, beq_eq_false_iff_ne, bne_eq_false_iff_eq, Bool.not_eq_true, Bool.not_eq_eq_eq_not, Bool.not_true, Bool.not_false, gt_iff_lt, ge_iff_le, Int.not_lt, Int.not_le]
    repeat' (first | with_reducible refine And.intro ?_ ?_ | intro _)
    all_goals first | rfl | omega | assumption | trivial | exact hx | (exfalso; simp_all; done) | skip
theorem d33 (m : Nat) (i : Int) (hm : m < W64) : Con Tryd.prog 33 [] [u64 m, .v (.int .i64 i)] ((.v (.bool (hasN m i)))) [] [] := by
  have c := d74 i
  have hm' : m < 18446744073709551616 := hm
  have wq : IntKind.u64.wrap ((m : Int).tdiv ((bitN i : Nat) : Int)) = (m : Int) / ((bitN i : Nat) : Int) := by
    rw [Int.tdiv_eq_ediv_of_nonneg (Int.natCast_nonneg _)]
    have h1 : (m : Int) / ((bitN i : Nat) : Int) = ((m / bitN i : Nat) : Int) := (Int.natCast_ediv _ _).symm
    have h2 : m / bitN i ≤ m := Nat.div_le_self _ _
    rw [h1]
    exact wrU' (Nat.lt_of_le_of_lt h2 hm)
  have ht : ((m : Int) / ((2 ^ i.toNat : Nat) : Int)).tmod 2 = (m : Int) / ((2 ^ i.toNat : Nat) : Int) % 2 := Int.tmod_eq_emod_of_nonneg (by rw [← Int.natCast_ediv]; exact Int.natCast_nonneg _)
  refine con_vc (how := [none]) (c := m33) (K := (KK m33)) spM (fun _ => []) (fun _ => []) 400 (.fork (.t .stop) (.fork .stop .stop)) (V := fun G R => (decide (i < (0 : Int)) = true → true = true ∧ R (D.v (Value.bool false), [], [])) ∧ (decide (i < (0 : Int)) = false → (decide (i > (63 : Int)) = true → R (D.v (Value.bool false), [], [])) ∧ (decide (i > (63 : Int)) = false → Con Tryd.prog 74 [] [D.v (Value.int IntKind.i64 i)] (D.v (Value.int IntKind.u64 (↑(bitN i) : Int))) [] [] ∧ Value.int IntKind.i64 i = Value.int IntKind.i64 i ∧ (↑(bitN i) : Int) ≠ (0 : Int) ∧ (2 : Int) ≠ (0 : Int) ∧ R (D.v (Value.bool ((IntKind.u64.wrap ((↑m : Int).tdiv (↑(bitN i) : Int))).tmod (2 : Int) == (1 : Int))), [], [])))) hmG Tryd.func33 (by kernel_rfl) (by kernel_rfl) (fun G R => by kernel_rfl) ?_
  try dsimp only
  by_cases h : 0 ≤ i ∧ i ≤ 63
  · have hb : bitN i = 2 ^ i.toNat := if_neg (by omega)
    rw [wq, hb, ht, has_div h.1 h.2]
    rw [hb] at c
    have hp : 0 < 2 ^ i.toNat := Nat.two_pow_pos _
    have e : (((m : Int) / ((2 ^ i.toNat : Nat) : Int) % 2) == 1) = decide ((m : Int) / ((2 ^ i.toNat : Nat) : Int) % 2 = 1) := by
      apply Bool.eq_iff_iff.2
      simp
    rw [e]
    simp (disch := omega) only [wrG, sameK_iff, true_and, and_true, decide_eq_true_eq, decide_eq_false_iff_not, ne_eq, not_false_eq_true, Bool.false_eq_true, Bool.true_eq_false, false_implies, true_implies, Ty.dflt, reduceCtorEq, beq_iff_eq, bne_iff_ne, beq_eq_false_iff_ne, bne_eq_false_iff_eq, Bool.not_eq_true, Bool.not_eq_eq_eq_not, Bool.not_true, Bool.not_false, gt_iff_lt, ge_iff_le, Int.not_lt, Int.not_le]
    repeat' (first | with_reducible refine And.intro ?_ ?_ | intro _)
    all_goals first | rfl | omega | assumption | trivial | (exfalso; simp_all; done) | skip
  · have e : hasN m i = false := by
      unfold hasN
      by_cases h1 : 0 ≤ i
      · rw [decide_eq_false (show ¬ i < 64 by omega)]; simp
      · rw [decide_eq_false h1]; simp
    rw [e]
    simp (disch := omega) only [wrG, sameK_iff, true_and, and_true, decide_eq_true_eq, decide_eq_false_iff_not, ne_eq, not_false_eq_true, Bool.false_eq_true, Bool.true_eq_false, false_implies, true_implies, Ty.dflt, reduceCtorEq, beq_iff_eq, bne_iff_ne, beq_eq_false_iff_ne, bne_eq_false_iff_eq, Bool.not_eq_true, Bool.not_eq_eq_eq_not, Bool.not_true, Bool.not_false, gt_iff_lt, ge_iff_le, Int.not_lt, Int.not_le]
    repeat' (first | with_reducible refine And.intro ?_ ?_ | intro _)
    all_goals first | rfl | omega | assumption | trivial | (exfalso; simp_all; done) | (exfalso; omega) | skip
theorem d26 (m : Nat) (i : Int) (hm : m < W64) : Con Tryd.prog 26 [] [u64 m, .v (.int .i64 i)] ((.v (.bool (hasN m i)))) [] [] := by
  have ha : (BitVec.ofInt 64 ((m / 2 ^ i.toNat : Nat) : Int) &&& BitVec.ofInt 64 1).toNat = (m / 2 ^ i.toNat) &&& 1 := andU (a := m / 2 ^ i.toNat) (b := 1) (Nat.lt_of_le_of_lt (Nat.div_le_self _ _) hm) (by decide)
  refine con_vc (how := [none]) (c := m26) (K := (KK m26)) spM (fun _ => []) (fun _ => []) 400 (.fork (.fork .stop .stop) (.f .stop)) (V := fun G R => (decide (i ≥ (0 : Int)) = true → (decide (i < (64 : Int)) = true → ¬i < (0 : Int) ∧ R (D.v (Value.bool (IntKind.u64.wrap (↑(BitVec.ofInt 64 ((↑m : Int).fdiv ((2 : Int) ^ min i.toNat 64)) &&& BitVec.ofInt 64 (1 : Int)).toNat : Int) == (1 : Int))), [], [])) ∧ (decide (i < (64 : Int)) = false → R (D.v (Value.bool false), [], []))) ∧ (decide (i ≥ (0 : Int)) = false → false = false ∧ R (D.v (Value.bool false), [], []))) hmG Tryd.func26 (by kernel_rfl) (by kernel_rfl) (fun G R => by kernel_rfl) ?_
  try dsimp only
  by_cases h : 0 ≤ i ∧ i < 64
  · rw [shr1 m h.2, ha, has_and h.1 h.2, Nat.and_one_is_mod]
    have hlt : m / 2 ^ i.toNat % 2 < 2 := Nat.mod_lt _ (by omega)
    have hw : IntKind.u64.wrap ((m / 2 ^ i.toNat % 2 : Nat) : Int) = ((m / 2 ^ i.toNat % 2 : Nat) : Int) := wrU (by omega) (by omega)
    rw [hw]
    have e : (((m / 2 ^ i.toNat % 2 : Nat) : Int) == 1) = decide (m / 2 ^ i.toNat % 2 = 1) := by
      apply Bool.eq_iff_iff.2
      simp only [beq_iff_eq, decide_eq_true_eq]
      omega
    rw [e]
    simp (disch := omega) only [wrG, sameK_iff, true_and, and_true, decide_eq_true_eq, decide_eq_false_iff_not, ne_eq, not_false_eq_true, Bool.false_eq_true, Bool.true_eq_false, false_implies, true_implies, Ty.dflt, reduceCtorEq, beq_iff_eq, bne_iff_ne, beq_eq_false_iff_ne, bne_eq_false_iff_eq, Bool.not_eq_true, Bool.not_eq_eq_eq_not, Bool.not_true, Bool.not_false, gt_iff_lt, ge_iff_le, Int.not_lt, Int.not_le]
    repeat' (first | with_reducible refine And.intro ?_ ?_ | intro _)
    all_goals first | rfl | omega | assumption | trivial | (exfalso; simp_all; done) | skip
  · have e : hasN m i = false := by
      unfold hasN
      by_cases h1 : 0 ≤ i
      · rw [decide_eq_false (show ¬ i < 64 by omega)]; simp
      · rw [decide_eq_false h1]; simp
    rw [e]
    simp (disch := omega) only [wrG, sameK_iff, true_and, and_true, decide_eq_true_eq, decide_eq_false_iff_not, ne_eq, not_false_eq_true, Bool.false_eq_true, Bool.true_eq_false, false_implies, true_implies, Ty.dflt, reduceCtorEq, beq_iff_eq, bne_iff_ne, beq_eq_false_iff_ne, bne_eq_false_iff_eq, Bool.not_eq_true, Bool.not_eq_eq_eq_not, Bool.not_true, Bool.not_false, gt_iff_lt, ge_iff_le, Int.not_lt, Int.not_le]
    repeat' (first | with_reducible refine And.intro ?_ ?_ | intro _)
    all_goals first | rfl | omega | assumption | trivial | (exfalso; simp_all; done) | (exfalso; omega) | skip
theorem d31 (n : Int)  : Con Tryd.prog 31 [] [.v (.int .i64 n)] ((.v (.int .u64 (fullN n : Nat)))) [] [] := by
  refine con_vc (how := [none]) (c := m31) (K := (KK m31)) spM (fun _ => []) (fun _ => []) 400 (.fork .stop (.fork .stop .stop)) (V := fun G R => (decide (n < (1 : Int)) = true → R (D.v (Value.int IntKind.u64 (0 : Int)), [], [])) ∧ (decide (n < (1 : Int)) = false → (decide (n > (63 : Int)) = true → R (D.v (Value.int IntKind.u64 (18446744073709551615 : Int)), [], [])) ∧ (decide (n > (63 : Int)) = false → ¬n < (0 : Int) ∧ R (D.v (Value.int IntKind.u64 (IntKind.u64.wrap (IntKind.u64.wrap ((1 : Int) * (2 : Int) ^ min n.toNat 64) - (1 : Int)))), [], [])))) hmG Tryd.func31 (by kernel_rfl) (by kernel_rfl) (fun G R => by kernel_rfl) ?_
  try dsimp only
  unfold fullN
  by_cases h1 : n < 1
  · rw [if_pos h1]
    simp (disch := omega) only [wrG, sameK_iff, true_and, and_true, decide_eq_true_eq, decide_eq_false_iff_not, ne_eq, not_false_eq_true, Bool.false_eq_true, Bool.true_eq_false, false_implies, true_implies, Ty.dflt, reduceCtorEq, beq_iff_eq, bne_iff_ne, beq_eq_false_iff_ne, bne_eq_false_iff_eq, Bool.not_eq_true, Bool.not_eq_eq_eq_not, Bool.not_true, Bool.not_false, gt_iff_lt, ge_iff_le, Int.not_lt, Int.not_le]
    repeat' (first | with_reducible refine And.intro ?_ ?_ | intro _)
    all_goals first | rfl | omega | assumption | trivial | (exfalso; simp_all; done) | (exfalso; omega) | skip
  · rw [if_neg h1]
    by_cases h2 : 63 < n
    · rw [if_pos h2]
      simp (disch := omega) only [wrG, sameK_iff, true_and, and_true, decide_eq_true_eq, decide_eq_false_iff_not, ne_eq, not_false_eq_true, Bool.false_eq_true, Bool.true_eq_false, false_implies, true_implies, Ty.dflt, reduceCtorEq, beq_iff_eq, bne_iff_ne, beq_eq_false_iff_ne, bne_eq_false_iff_eq, Bool.not_eq_true, Bool.not_eq_eq_eq_not, Bool.not_true, Bool.not_false, gt_iff_lt, ge_iff_le, Int.not_lt, Int.not_le]
      repeat' (first | with_reducible refine And.intro ?_ ?_ | intro _)
      all_goals first | rfl | omega | assumption | trivial | (exfalso; simp_all; done) | (exfalso; omega) | skip
    · rw [if_neg h2, shl1 (by omega) (by omega)]
      have hp : 0 < 2 ^ n.toNat := Nat.two_pow_pos _
      have hlt := u64_mask (t := n.toNat) (by omega)
      have e : (((2 ^ n.toNat : Nat) : Int) - 1) = ((2 ^ n.toNat - 1 : Nat) : Int) := by omega
      rw [e, wrU' (Nat.lt_of_le_of_lt (Nat.sub_le _ _) hlt)]
      simp (disch := omega) only [wrG, sameK_iff, true_and, and_true, decide_eq_true_eq, decide_eq_false_iff_not, ne_eq, not_false_eq_true, Bool.false_eq_true, Bool.true_eq_false, false_implies, true_implies, Ty.dflt, reduceCtorEq, beq_iff_eq, bne_iff_ne, beq_eq_false_iff_ne, bne_eq_false_iff_eq, Bool.not_eq_true, Bool.not_eq_eq_eq_not, Bool.not_true, Bool.not_false, gt_iff_lt, ge_iff_le, Int.not_lt, Int.not_le]
      repeat' (first | with_reducible refine And.intro ?_ ?_ | intro _)
      all_goals first | rfl | omega | assumption | trivial | (exfalso; simp_all; done) | (exfalso; omega) | skip
theorem e32 (n : Int) (z : Nat) : ∀ (k b : Nat), k + z = (min (max n 0) 64).toNat → b = 2 ^ k - 1 → GetsK Tryd.prog Tryd.f32.results.toList [none] (KK m32) 0 (.v (.int .u64 ((2 ^ (min (max n 0) 64).toNat - 1 : Nat) : Int)), [], []) 0 (stOf 19 [0,3,4] [.v (.int .i64 n), .v (.int .u64 (b : Int)), .v (.int .i64 (k : Int))] []) := by
  induction z with
  | zero =>
    intro k b hk hb
    rw [← hk, Nat.add_zero, ← hb]
    refine gets_vc spM (fun _ => [0,3,4]) (fun _ => []) 400 (.fork (.fork (.hd 0) .stop) (.f .stop)) (V := fun G R => (decide ((↑k : Int) < (64 : Int)) = true → (decide ((↑k : Int) < n) = true → Con Tryd.prog 74 [] [D.v (Value.int IntKind.i64 (↑k : Int))] (D.v (Value.int IntKind.u64 (↑(bitN (↑k : Int)) : Int))) [] [] ∧ Value.int IntKind.i64 (↑k : Int) = Value.int IntKind.i64 (↑k : Int) ∧ SameK (KK m32 0) (KK m32 0) ∧ G 0 (stOf 19 [0, 3, 4] [D.v (Value.int IntKind.i64 n), D.v (Value.int IntKind.u64 (IntKind.u64.wrap ((↑b : Int) + (↑(bitN (↑k : Int)) : Int)))), D.v (Value.int IntKind.i64 (IntKind.i64.wrap ((↑k : Int) + (1 : Int))))] [])) ∧ (decide ((↑k : Int) < n) = false → R (D.v (Value.int IntKind.u64 (↑b : Int)), [], []))) ∧ (decide ((↑k : Int) < (64 : Int)) = false → false = false ∧ R (D.v (Value.int IntKind.u64 (↑b : Int)), [], []))) hmG (fun G R => by kernel_rfl) ?_
    simp (disch := omega) only [wrG, sameK_iff, true_and, and_true, decide_eq_true_eq, decide_eq_false_iff_not, ne_eq, not_false_eq_true, Bool.false_eq_true, Bool.true_eq_false, false_implies, true_implies, Ty.dflt, reduceCtorEq, beq_iff_eq, bne_iff_ne, beq_eq_false_iff_ne, bne_eq_false_iff_eq, Bool.not_eq_true, Bool.not_eq_eq_eq_not, Bool.not_true, Bool.not_false, gt_iff_lt, ge_iff_le, Int.not_lt, Int.not_le]
    repeat' (first | with_reducible refine And.intro ?_ ?_ | intro _)
    all_goals first | rfl | omega | assumption | trivial | (exfalso; simp_all; done) | (exfalso; omega) | skip
  | succ z ih =>
    intro k b hk hb
    have hlt : 2 ^ (k + 1) ≤ W64 := (Nat.pow_le_pow_right (by omega) (by omega) : 2 ^ (k + 1) ≤ 2 ^ 64)
    have hp : 0 < 2 ^ k := Nat.two_pow_pos k
    have hs : 2 ^ (k + 1) = 2 * 2 ^ k := by rw [Nat.pow_succ]; omega
    have hbit : bitN (k : Int) = 2 ^ k := by unfold bitN; rw [if_neg (by omega), Int.toNat_natCast]
    have c := d74 (k : Int)
    rw [hbit] at c
    have hx := ih (k + 1) (b + 2 ^ k) (by omega) (by omega)
    have hlt' : 2 ^ (k + 1) ≤ 18446744073709551616 := hlt
    have hw : IntKind.u64.wrap ((b : Int) + ((2 ^ k : Nat) : Int)) = ((b + 2 ^ k : Nat) : Int) := by
      rw [← Int.natCast_add]
      exact wrU' (by show b + 2 ^ k < 18446744073709551616; omega)
    have hk1 : IntKind.i64.wrap ((k : Int) + 1) = ((k + 1 : Nat) : Int) := by rw [wrG (by omega) (by omega)]; simp
    refine gets_vc spM (fun _ => [0,3,4]) (fun _ => []) 400 (.fork (.fork (.hd 0) .stop) (.f .stop)) (V := fun G R => (decide ((↑k : Int) < (64 : Int)) = true → (decide ((↑k : Int) < n) = true → Con Tryd.prog 74 [] [D.v (Value.int IntKind.i64 (↑k : Int))] (D.v (Value.int IntKind.u64 (↑(bitN (↑k : Int)) : Int))) [] [] ∧ Value.int IntKind.i64 (↑k : Int) = Value.int IntKind.i64 (↑k : Int) ∧ SameK (KK m32 0) (KK m32 0) ∧ G 0 (stOf 19 [0, 3, 4] [D.v (Value.int IntKind.i64 n), D.v (Value.int IntKind.u64 (IntKind.u64.wrap ((↑b : Int) + (↑(bitN (↑k : Int)) : Int)))), D.v (Value.int IntKind.i64 (IntKind.i64.wrap ((↑k : Int) + (1 : Int))))] [])) ∧ (decide ((↑k : Int) < n) = false → R (D.v (Value.int IntKind.u64 (↑b : Int)), [], []))) ∧ (decide ((↑k : Int) < (64 : Int)) = false → false = false ∧ R (D.v (Value.int IntKind.u64 (↑b : Int)), [], []))) hmG (fun G R => by kernel_rfl) ?_
    rw [hbit, hw, hk1]
    simp (disch := omega) only [wrG, sameK_iff, true_and, and_true, decide_eq_true_eq, decide_eq_false_iff_not, ne_eq, not_false_eq_true, Bool.false_eq_true, Bool.true_eq_false, false_implies, true_implies, Ty.dflt, reduceCtorEq, beq_iff_eq, bne_iff_ne, beq_eq_false_iff_ne, bne_eq_false_iff_eq, Bool.not_eq_true, Bool.not_eq_eq_eq_not, Bool.not_true, Bool.not_false, gt_iff_lt, ge_iff_le, Int.not_lt, Int.not_le]
    repeat' (first | with_reducible refine And.intro ?_ ?_ | intro _)
    all_goals first | rfl | omega | assumption | trivial | (exfalso; simp_all; done) | (exfalso; omega) | skip

theorem d32 (n : Int)  : Con Tryd.prog 32 [] [.v (.int .i64 n)] ((.v (.int .u64 (fullN n : Nat)))) [] [] := by
  refine con_vc (how := [none]) (c := m32) (K := (KK m32)) spM (fun _ => [0,3,4]) (fun _ => []) 400 (.hd 0) (V := fun G R => SameK (KK m32 0) (KK m32 0) ∧ G 0 (stOf 19 [0, 3, 4] [D.v (Value.int IntKind.i64 n), D.v (Value.int IntKind.u64 (0 : Int)), D.v (Value.int IntKind.i64 (0 : Int))] [])) hmG Tryd.func32 (by kernel_rfl) (by kernel_rfl) (fun G R => by kernel_rfl) ?_
  try dsimp only
  have hx := e32 n (min (max n 0) 64).toNat 0 0 (by omega) rfl
  have e : fullN n = 2 ^ (min (max n 0) 64).toNat - 1 := by
    unfold fullN
    split
    · rw [show (min (max n 0) 64).toNat = 0 by omega]
    · split
      · rw [show (min (max n 0) 64).toNat = 64 by omega]
      · rw [show (min (max n 0) 64).toNat = n.toNat by omega]
  rw [e]
  simp (disch := omega) only [wrG, sameK_iff, true_and, and_true, decide_eq_true_eq, decide_eq_false_iff_not, ne_eq, not_false_eq_true, Bool.false_eq_true, Bool.true_eq_false, false_implies, true_implies, Ty.dflt, reduceCtorEq, beq_iff_eq, bne_iff_ne, beq_eq_false_iff_ne, bne_eq_false_iff_eq, Bool.not_eq_true, Bool.not_eq_eq_eq_not, Bool.not_true, Bool.not_false, gt_iff_lt, ge_iff_le, Int.not_lt, Int.not_le]
  repeat' (first | with_reducible refine And.intro ?_ ?_ | intro _)
  all_goals first | rfl | omega | assumption | trivial | (exfalso; simp_all; done) | (exfalso; omega) | skip
theorem of_step (acc : Nat) (a : Int) (h0 : 0 ≤ a) (h1 : a < 64) (hb : acc < W64) : IntKind.u64.wrap ((BitVec.ofInt 64 (acc : Int) ||| BitVec.ofInt 64 ((2 ^ a.toNat : Nat) : Int)).toNat : Int) = ((acc ||| 2 ^ a.toNat : Nat) : Int) := by
  have hlt := u64_mask (t := a.toNat) (by omega)
  rw [orU hb hlt]
  exact wrU' (or_lt hb hlt)

theorem e24 (L : List Int) (hL : (L.length : Int) ≤ 9223372036854775807) (z : Nat) : ∀ (k : Int) (b : Nat), 0 ≤ k → k + z = L.length → b < W64 → ∀ r, r = ofA b (L.drop k.toNat) → GetsK Tryd.prog Tryd.f24.results.toList [none] (KK m24) 0 (.v (.int .u64 ((r : Nat) : Int)), [], []) 0 (stOf 24 [3,6,7,8] [.v (.int .u64 (b : Int)), slI L, .v (.int .i64 L.length), .v (.int .i64 k)] []) := by
  induction z with
  | zero =>
    intro k b k0 hk hb r hr
    rw [List.drop_eq_nil_of_le (by omega)] at hr
    have hr : r = b := hr
    rw [hr]
    refine gets_vc spM (fun _ => [3,6,7,8]) (fun _ => []) 400 (.fork (.fork (.fork (.hd 0) (.hd 0)) (.f (.hd 0))) .stop) (V := fun G R => (decide (k < (↑L.length : Int)) = true → (0 : Int) ≤ k ∧ k < (↑L.length : Int) ∧ (decide (L.getD k.toNat (Ty.int IntKind.i64).dflt ≥ (0 : Int)) = true → (decide (L.getD k.toNat (Ty.int IntKind.i64).dflt < (64 : Int)) = true → ¬L.getD k.toNat (Ty.int IntKind.i64).dflt < (0 : Int) ∧ SameK (KK m24 0) (KK m24 0) ∧ G 0 (stOf 24 [3, 6, 7, 8] [D.v (Value.int IntKind.u64 (IntKind.u64.wrap (↑(BitVec.ofInt 64 (↑b : Int) ||| BitVec.ofInt 64 (IntKind.u64.wrap ((1 : Int) * (2 : Int) ^ min (Int.toNat (L.getD k.toNat (Ty.int IntKind.i64).dflt)) 64))).toNat : Int))), D.sl false false (Ty.int IntKind.i64) L, D.v (Value.int IntKind.i64 (↑L.length : Int)), D.v (Value.int IntKind.i64 (IntKind.i64.wrap (k + (1 : Int))))] [])) ∧ (decide (L.getD k.toNat (Ty.int IntKind.i64).dflt < (64 : Int)) = false → SameK (KK m24 0) (KK m24 0) ∧ G 0 (stOf 24 [3, 6, 7, 8] [D.v (Value.int IntKind.u64 (↑b : Int)), D.sl false false (Ty.int IntKind.i64) L, D.v (Value.int IntKind.i64 (↑L.length : Int)), D.v (Value.int IntKind.i64 (IntKind.i64.wrap (k + (1 : Int))))] []))) ∧ (decide (L.getD k.toNat (Ty.int IntKind.i64).dflt ≥ (0 : Int)) = false → false = false ∧ SameK (KK m24 0) (KK m24 0) ∧ G 0 (stOf 24 [3, 6, 7, 8] [D.v (Value.int IntKind.u64 (↑b : Int)), D.sl false false (Ty.int IntKind.i64) L, D.v (Value.int IntKind.i64 (↑L.length : Int)), D.v (Value.int IntKind.i64 (IntKind.i64.wrap (k + (1 : Int))))] []))) ∧ (decide (k < (↑L.length : Int)) = false → R (D.v (Value.int IntKind.u64 (↑b : Int)), [], []))) hmG (fun G R => by kernel_rfl) ?_
    simp (disch := omega) only [wrG, sameK_iff, true_and, and_true, decide_eq_true_eq, decide_eq_false_iff_not, ne_eq, not_false_eq_true, Bool.false_eq_true, Bool.true_eq_false, false_implies, true_implies, Ty.dflt, reduceCtorEq, beq_iff_eq, bne_iff_ne, beq_eq_false_iff_ne, bne_eq_false_iff_eq, Bool.not_eq_true, Bool.not_eq_eq_eq_not, Bool.not_true, Bool.not_false, gt_iff_lt, ge_iff_le, Int.not_lt, Int.not_le]
    repeat' (first | with_reducible refine And.intro ?_ ?_ | intro _)
    all_goals first | rfl | omega | assumption | trivial | (exfalso; simp_all; done) | (exfalso; omega) | skip
  | succ z ih =>
    intro k b k0 hk hb r hr
    have hd := drop_at (xs := L) (i := k) (0 : Int) k0 (by omega)
    rw [hd] at hr
    simp only [ofA] at hr
    refine gets_vc spM (fun _ => [3,6,7,8]) (fun _ => []) 400 (.fork (.fork (.fork (.hd 0) (.hd 0)) (.f (.hd 0))) .stop) (V := fun G R => (decide (k < (↑L.length : Int)) = true → (0 : Int) ≤ k ∧ k < (↑L.length : Int) ∧ (decide (L.getD k.toNat (Ty.int IntKind.i64).dflt ≥ (0 : Int)) = true → (decide (L.getD k.toNat (Ty.int IntKind.i64).dflt < (64 : Int)) = true → ¬L.getD k.toNat (Ty.int IntKind.i64).dflt < (0 : Int) ∧ SameK (KK m24 0) (KK m24 0) ∧ G 0 (stOf 24 [3, 6, 7, 8] [D.v (Value.int IntKind.u64 (IntKind.u64.wrap (↑(BitVec.ofInt 64 (↑b : Int) ||| BitVec.ofInt 64 (IntKind.u64.wrap ((1 : Int) * (2 : Int) ^ min (Int.toNat (L.getD k.toNat (Ty.int IntKind.i64).dflt)) 64))).toNat : Int))), D.sl false false (Ty.int IntKind.i64) L, D.v (Value.int IntKind.i64 (↑L.length : Int)), D.v (Value.int IntKind.i64 (IntKind.i64.wrap (k + (1 : Int))))] [])) ∧ (decide (L.getD k.toNat (Ty.int IntKind.i64).dflt < (64 : Int)) = false → SameK (KK m24 0) (KK m24 0) ∧ G 0 (stOf 24 [3, 6, 7, 8] [D.v (Value.int IntKind.u64 (↑b : Int)), D.sl false false (Ty.int IntKind.i64) L, D.v (Value.int IntKind.i64 (↑L.length : Int)), D.v (Value.int IntKind.i64 (IntKind.i64.wrap (k + (1 : Int))))] []))) ∧ (decide (L.getD k.toNat (Ty.int IntKind.i64).dflt ≥ (0 : Int)) = false → false = false ∧ SameK (KK m24 0) (KK m24 0) ∧ G 0 (stOf 24 [3, 6, 7, 8] [D.v (Value.int IntKind.u64 (↑b : Int)), D.sl false false (Ty.int IntKind.i64) L, D.v (Value.int IntKind.i64 (↑L.length : Int)), D.v (Value.int IntKind.i64 (IntKind.i64.wrap (k + (1 : Int))))] []))) ∧ (decide (k < (↑L.length : Int)) = false → R (D.v (Value.int IntKind.u64 (↑b : Int)), [], []))) hmG (fun G R => by kernel_rfl) ?_
    simp only [Ty.dflt]
    clear hd
    obtain ⟨a, ha⟩ : ∃ a, L.getD k.toNat (0 : Int) = a := ⟨_, rfl⟩
    simp only [ha] at hr ⊢
    have hk1 : IntKind.i64.wrap (k + 1) = k + 1 := wrG (by omega) (by omega)
    rw [hk1]
    by_cases h : 0 ≤ a ∧ a < 64
    · rw [if_pos h] at hr
      have hx := ih (k + 1) (b ||| 2 ^ a.toNat) (by omega) (by omega) (or_lt hb (u64_mask (by omega))) r hr
      rw [shl1 h.1 h.2, of_step b a h.1 h.2 hb]
      simp (disch := omega) only [wrG, sameK_iff, true_and, and_true, decide_eq_true_eq, decide_eq_false_iff_not, ne_eq, not_false_eq_true, Bool.false_eq_true, Bool.true_eq_false, false_implies, true_implies, Ty.dflt, reduceCtorEq, beq_iff_eq, bne_iff_ne, beq_eq_false_iff_ne, bne_eq_false_iff_eq, Bool.not_eq_true, Bool.not_eq_eq_eq_not, Bool.not_true, Bool.not_false, gt_iff_lt, ge_iff_le, Int.not_lt, Int.not_le]
      repeat' (first | with_reducible refine And.intro ?_ ?_ | intro _)
      all_goals first | rfl | omega | assumption | trivial | (exfalso; simp_all; done) | (exfalso; omega) | skip
    · rw [if_neg h] at hr
      have hx := ih (k + 1) b (by omega) (by omega) hb r hr
      simp (disch := omega) only [wrG, sameK_iff, true_and, and_true, decide_eq_true_eq, decide_eq_false_iff_not, ne_eq, not_false_eq_true, Bool.false_eq_true, Bool.true_eq_false, false_implies, true_implies, Ty.dflt, reduceCtorEq, beq_iff_eq, bne_iff_ne, beq_eq_false_iff_ne, bne_eq_false_iff_eq, Bool.not_eq_true, Bool.not_eq_eq_eq_not, Bool.not_true, Bool.not_false, gt_iff_lt, ge_iff_le, Int.not_lt, Int.not_le]
      repeat' (first | with_reducible refine And.intro ?_ ?_ | intro _)
      all_goals first | rfl | omega | assumption | trivial | (exfalso; simp_all; done) | (exfalso; omega) | skip

theorem d24 (L : List Int) (hL : (L.length : Int) ≤ 9223372036854775807) : Con Tryd.prog 24 [] [slI L] ((.v (.int .u64 (ofN L : Nat)))) [] [] := by
  refine con_vc (how := [none]) (c := m24) (K := (KK m24)) spM (fun _ => [3,6,7,8]) (fun _ => []) 400 (.hd 0) (V := fun G R => SameK (KK m24 0) (KK m24 0) ∧ G 0 (stOf 24 [3, 6, 7, 8] [D.v (Value.int IntKind.u64 (0 : Int)), D.sl false false (Ty.int IntKind.i64) L, D.v (Value.int IntKind.i64 (↑L.length : Int)), D.v (Value.int IntKind.i64 (0 : Int))] [])) hmG Tryd.func24 (by kernel_rfl) (by kernel_rfl) (fun G R => by kernel_rfl) ?_
  try dsimp only
  have hx := e24 L hL L.length 0 0 (by omega) (by omega) (by decide) (ofN L) rfl
  simp (disch := omega) only [wrG, sameK_iff, true_and, and_true, decide_eq_true_eq, decide_eq_false_iff_not, ne_eq, not_false_eq_true, Bool.false_eq_true, Bool.true_eq_false, false_implies, true_implies, Ty.dflt, reduceCtorEq, beq_iff_eq, bne_iff_ne, beq_eq_false_iff_ne, bne_eq_false_iff_eq, Bool.not_eq_true, Bool.not_eq_eq_eq_not, Bool.not_true, Bool.not_false, gt_iff_lt, ge_iff_le, Int.not_lt, Int.not_le]
  repeat' (first | with_reducible refine And.intro ?_ ?_ | intro _)
  all_goals first | rfl | omega | assumption | trivial | (exfalso; simp_all; done) | (exfalso; omega) | skip
theorem e30 (L : List Int) (hL : (L.length : Int) ≤ 9223372036854775807) (z : Nat) : ∀ (k : Int) (b : Nat), 0 ≤ k → k + z = L.length → b < W64 → ∀ r, r = ofA b (L.drop k.toNat) → GetsK Tryd.prog Tryd.f30.results.toList [none] (KK m30) 0 (.v (.int .u64 ((r : Nat) : Int)), [], []) 0 (stOf 40 [0,3,4] [slI L, .v (.int .u64 (b : Int)), .v (.int .i64 k)] []) := by
  induction z with
  | zero =>
    intro k b k0 hk hb r hr
    rw [List.drop_eq_nil_of_le (by omega)] at hr
    have hr : r = b := hr
    rw [hr]
    refine gets_vc spM (fun _ => [0,3,4]) (fun _ => []) 400 (.fork (.fork (.fork (.fork (.hd 0) (.hd 0)) (.f (.hd 0))) (.f (.f (.hd 0)))) .stop) (V := fun G R => (decide (k < (↑L.length : Int)) = true → (0 : Int) ≤ k ∧ k < (↑L.length : Int) ∧ (decide (L.getD k.toNat (Ty.int IntKind.i64).dflt ≥ (0 : Int)) = true → (0 : Int) ≤ k ∧ k < (↑L.length : Int) ∧ (decide (L.getD k.toNat (Ty.int IntKind.i64).dflt ≤ (63 : Int)) = true → (0 : Int) ≤ k ∧ k < (↑L.length : Int) ∧ Con Tryd.prog 33 [] [D.v (Value.int IntKind.u64 (↑b : Int)), D.v (Value.int IntKind.i64 (L.getD k.toNat (Ty.int IntKind.i64).dflt))] (D.v (Value.bool (hasN (↑b : Int).toNat (L.getD k.toNat (Ty.int IntKind.i64).dflt)))) [] [] ∧ Value.int IntKind.u64 (↑b : Int) = Value.int IntKind.u64 (↑b : Int) ∧ Value.int IntKind.i64 (L.getD k.toNat (Ty.int IntKind.i64).dflt) = Value.int IntKind.i64 (L.getD k.toNat (Ty.int IntKind.i64).dflt) ∧ ((!hasN (↑b : Int).toNat (L.getD k.toNat (Ty.int IntKind.i64).dflt)) = true → (0 : Int) ≤ k ∧ k < (↑L.length : Int) ∧ Con Tryd.prog 74 [] [D.v (Value.int IntKind.i64 (L.getD k.toNat (Ty.int IntKind.i64).dflt))] (D.v (Value.int IntKind.u64 (↑(bitN (L.getD k.toNat (Ty.int IntKind.i64).dflt)) : Int))) [] [] ∧ Value.int IntKind.i64 (L.getD k.toNat (Ty.int IntKind.i64).dflt) = Value.int IntKind.i64 (L.getD k.toNat (Ty.int IntKind.i64).dflt) ∧ SameK (KK m30 0) (KK m30 0) ∧ G 0 (stOf 40 [0, 3, 4] [D.sl false false (Ty.int IntKind.i64) L, D.v (Value.int IntKind.u64 (IntKind.u64.wrap ((↑b : Int) + (↑(bitN (L.getD k.toNat (Ty.int IntKind.i64).dflt)) : Int)))), D.v (Value.int IntKind.i64 (IntKind.i64.wrap (k + (1 : Int))))] [])) ∧ ((!hasN (↑b : Int).toNat (L.getD k.toNat (Ty.int IntKind.i64).dflt)) = false → SameK (KK m30 0) (KK m30 0) ∧ G 0 (stOf 40 [0, 3, 4] [D.sl false false (Ty.int IntKind.i64) L, D.v (Value.int IntKind.u64 (↑b : Int)), D.v (Value.int IntKind.i64 (IntKind.i64.wrap (k + (1 : Int))))] []))) ∧ (decide (L.getD k.toNat (Ty.int IntKind.i64).dflt ≤ (63 : Int)) = false → false = false ∧ SameK (KK m30 0) (KK m30 0) ∧ G 0 (stOf 40 [0, 3, 4] [D.sl false false (Ty.int IntKind.i64) L, D.v (Value.int IntKind.u64 (↑b : Int)), D.v (Value.int IntKind.i64 (IntKind.i64.wrap (k + (1 : Int))))] []))) ∧ (decide (L.getD k.toNat (Ty.int IntKind.i64).dflt ≥ (0 : Int)) = false → false = false ∧ false = false ∧ SameK (KK m30 0) (KK m30 0) ∧ G 0 (stOf 40 [0, 3, 4] [D.sl false false (Ty.int IntKind.i64) L, D.v (Value.int IntKind.u64 (↑b : Int)), D.v (Value.int IntKind.i64 (IntKind.i64.wrap (k + (1 : Int))))] []))) ∧ (decide (k < (↑L.length : Int)) = false → R (D.v (Value.int IntKind.u64 (↑b : Int)), [], []))) hmG (fun G R => by kernel_rfl) ?_
    simp (disch := omega) only [wrG, sameK_iff, true_and, and_true, decide_eq_true_eq, decide_eq_false_iff_not, ne_eq, not_false_eq_true, Bool.false_eq_true, Bool.true_eq_false, false_implies, true_implies, Ty.dflt, reduceCtorEq, beq_iff_eq, bne_iff_ne, beq_eq_false_iff_ne, bne_eq_false_iff_eq, Bool.not_eq_true, Bool.not_eq_eq_eq_not, Bool.not_true, Bool.not_false, gt_iff_lt, ge_iff_le, Int.not_lt, Int.not_le]
    repeat' (first | with_reducible refine And.intro ?_ ?_ | intro _)
    all_goals first | rfl | omega | assumption | trivial | (exfalso; simp_all; done) | (exfalso; omega) | skip
  | succ z ih =>
    intro k b k0 hk hb r hr
    have hd := drop_at (xs := L) (i := k) (0 : Int) k0 (by omega)
    rw [hd] at hr
    simp only [ofA] at hr
    refine gets_vc spM (fun _ => [0,3,4]) (fun _ => []) 400 (.fork (.fork (.fork (.fork (.hd 0) (.hd 0)) (.f (.hd 0))) (.f (.f (.hd 0)))) .stop) (V := fun G R => (decide (k < (↑L.length : Int)) = true → (0 : Int) ≤ k ∧ k < (↑L.length : Int) ∧ (decide (L.getD k.toNat (Ty.int IntKind.i64).dflt ≥ (0 : Int)) = true → (0 : Int) ≤ k ∧ k < (↑L.length : Int) ∧ (decide (L.getD k.toNat (Ty.int IntKind.i64).dflt ≤ (63 : Int)) = true → (0 : Int) ≤ k ∧ k < (↑L.length : Int) ∧ Con Tryd.prog 33 [] [D.v (Value.int IntKind.u64 (↑b : Int)), D.v (Value.int IntKind.i64 (L.getD k.toNat (Ty.int IntKind.i64).dflt))] (D.v (Value.bool (hasN (↑b : Int).toNat (L.getD k.toNat (Ty.int IntKind.i64).dflt)))) [] [] ∧ Value.int IntKind.u64 (↑b : Int) = Value.int IntKind.u64 (↑b : Int) ∧ Value.int IntKind.i64 (L.getD k.toNat (Ty.int IntKind.i64).dflt) = Value.int IntKind.i64 (L.getD k.toNat (Ty.int IntKind.i64).dflt) ∧ ((!hasN (↑b : Int).toNat (L.getD k.toNat (Ty.int IntKind.i64).dflt)) = true → (0 : Int) ≤ k ∧ k < (↑L.length : Int) ∧ Con Tryd.prog 74 [] [D.v (Value.int IntKind.i64 (L.getD k.toNat (Ty.int IntKind.i64).dflt))] (D.v (Value.int IntKind.u64 (↑(bitN (L.getD k.toNat (Ty.int IntKind.i64).dflt)) : Int))) [] [] ∧ Value.int IntKind.i64 (L.getD k.toNat (Ty.int IntKind.i64).dflt) = Value.int IntKind.i64 (L.getD k.toNat (Ty.int IntKind.i64).dflt) ∧ SameK (KK m30 0) (KK m30 0) ∧ G 0 (stOf 40 [0, 3, 4] [D.sl false false (Ty.int IntKind.i64) L, D.v (Value.int IntKind.u64 (IntKind.u64.wrap ((↑b : Int) + (↑(bitN (L.getD k.toNat (Ty.int IntKind.i64).dflt)) : Int)))), D.v (Value.int IntKind.i64 (IntKind.i64.wrap (k + (1 : Int))))] [])) ∧ ((!hasN (↑b : Int).toNat (L.getD k.toNat (Ty.int IntKind.i64).dflt)) = false → SameK (KK m30 0) (KK m30 0) ∧ G 0 (stOf 40 [0, 3, 4] [D.sl false false (Ty.int IntKind.i64) L, D.v (Value.int IntKind.u64 (↑b : Int)), D.v (Value.int IntKind.i64 (IntKind.i64.wrap (k + (1 : Int))))] []))) ∧ (decide (L.getD k.toNat (Ty.int IntKind.i64).dflt ≤ (63 : Int)) = false → false = false ∧ SameK (KK m30 0) (KK m30 0) ∧ G 0 (stOf 40 [0, 3, 4] [D.sl false false (Ty.int IntKind.i64) L, D.v (Value.int IntKind.u64 (↑b : Int)), D.v (Value.int IntKind.i64 (IntKind.i64.wrap (k + (1 : Int))))] []))) ∧ (decide (L.getD k.toNat (Ty.int IntKind.i64).dflt ≥ (0 : Int)) = false → false = false ∧ false = false ∧ SameK (KK m30 0) (KK m30 0) ∧ G 0 (stOf 40 [0, 3, 4] [D.sl false false (Ty.int IntKind.i64) L, D.v (Value.int IntKind.u64 (↑b : Int)), D.v (Value.int IntKind.i64 (IntKind.i64.wrap (k + (1 : Int))))] []))) ∧ (decide (k < (↑L.length : Int)) = false → R (D.v (Value.int IntKind.u64 (↑b : Int)), [], []))) hmG (fun G R => by kernel_rfl) ?_
    simp only [Ty.dflt]
    clear hd
    obtain ⟨a, ha⟩ : ∃ a, L.getD k.toNat (0 : Int) = a := ⟨_, rfl⟩
    simp only [ha] at hr ⊢
    have hk1 : IntKind.i64.wrap (k + 1) = k + 1 := wrG (by omega) (by omega)
    rw [hk1]
    have c := d33 b a hb
    have c2 := d74 a
    simp only [Int.toNat_natCast]
    by_cases h : 0 ≤ a ∧ a < 64
    · rw [if_pos h] at hr
      have hbit : bitN a = 2 ^ a.toNat := if_neg (by omega)
      have hhas : hasN b a = b.testBit a.toNat := by unfold hasN; rw [decide_eq_true h.1, decide_eq_true h.2]; rfl
      rw [hbit] at c2 ⊢
      rw [hhas] at c ⊢
      cases hb2 : b.testBit a.toNat with
      | true =>
        have e : b ||| 2 ^ a.toNat = b := by
          apply Nat.eq_of_testBit_eq
          intro j
          rw [Nat.testBit_or, Nat.testBit_two_pow]
          by_cases hj : a.toNat = j
          · rw [← hj, hb2]; rfl
          · simp [hj]
        rw [e] at hr
        have hx := ih (k + 1) b (by omega) (by omega) hb r hr
        rw [hb2] at c
        simp (disch := omega) only [wrG, sameK_iff, true_and, and_true, decide_eq_true_eq, decide_eq_false_iff_not, ne_eq, not_false_eq_true, Bool.false_eq_true, Bool.true_eq_false, false_implies, true_implies, Ty.dflt, reduceCtorEq, beq_iff_eq, bne_iff_ne, beq_eq_false_iff_ne, bne_eq_false_iff_eq, Bool.not_eq_true, Bool.not_eq_eq_eq_not, Bool.not_true, Bool.not_false, gt_iff_lt, ge_iff_le, Int.not_lt, Int.not_le]
        repeat' (first | with_reducible refine And.intro ?_ ?_ | intro _)
        all_goals first | rfl | omega | assumption | trivial | (exfalso; simp_all; done) | (exfalso; omega) | skip
      | false =>
        have hx := ih (k + 1) (b ||| 2 ^ a.toNat) (by omega) (by omega) (or_lt hb (u64_mask (by omega))) r hr
        have hw : IntKind.u64.wrap ((b : Int) + ((2 ^ a.toNat : Nat) : Int)) = ((b ||| 2 ^ a.toNat : Nat) : Int) := by
          rw [← add_or hb2, ← Int.natCast_add]
          exact wrU' (by rw [add_or hb2]; exact or_lt hb (u64_mask (by omega)))
        rw [hb2] at c
        rw [hw]
        simp (disch := omega) only [wrG, sameK_iff, true_and, and_true, decide_eq_true_eq, decide_eq_false_iff_not, ne_eq, not_false_eq_true, Bool.false_eq_true, Bool.true_eq_false, false_implies, true_implies, Ty.dflt, reduceCtorEq, beq_iff_eq, bne_iff_ne, beq_eq_false_iff_ne, bne_eq_false_iff_eq, Bool.not_eq_true, Bool.not_eq_eq_eq_not, Bool.not_true, Bool.not_false, gt_iff_lt, ge_iff_le, Int.not_lt, Int.not_le]
        repeat' (first | with_reducible refine And.intro ?_ ?_ | intro _)
        all_goals first | rfl | omega | assumption | trivial | (exfalso; simp_all; done) | (exfalso; omega) | skip
    · rw [if_neg h] at hr
      have hx := ih (k + 1) b (by omega) (by omega) hb r hr
      simp (disch := omega) only [wrG, sameK_iff, true_and, and_true, decide_eq_true_eq, decide_eq_false_iff_not, ne_eq, not_false_eq_true, Bool.false_eq_true, Bool.true_eq_false, false_implies, true_implies, Ty.dflt, reduceCtorEq, beq_iff_eq, bne_iff_ne, beq_eq_false_iff_ne, bne_eq_false_iff_eq, Bool.not_eq_true, Bool.not_eq_eq_eq_not, Bool.not_true, Bool.not_false, gt_iff_lt, ge_iff_le, Int.not_lt, Int.not_le]
      repeat' (first | with_reducible refine And.intro ?_ ?_ | intro _)
      all_goals first | rfl | omega | assumption | trivial | (exfalso; simp_all; done) | (exfalso; omega) | skip

theorem d30 (L : List Int) (hL : (L.length : Int) ≤ 9223372036854775807) : Con Tryd.prog 30 [] [slI L] ((.v (.int .u64 (ofN L : Nat)))) [] [] := by
  refine con_vc (how := [none]) (c := m30) (K := (KK m30)) spM (fun _ => [0,3,4]) (fun _ => []) 400 (.hd 0) (V := fun G R => SameK (KK m30 0) (KK m30 0) ∧ G 0 (stOf 40 [0, 3, 4] [D.sl false false (Ty.int IntKind.i64) L, D.v (Value.int IntKind.u64 (0 : Int)), D.v (Value.int IntKind.i64 (0 : Int))] [])) hmG Tryd.func30 (by kernel_rfl) (by kernel_rfl) (fun G R => by kernel_rfl) ?_
  try dsimp only
  have hx := e30 L hL L.length 0 0 (by omega) (by omega) (by decide) (ofN L) rfl
  simp (disch := omega) only [wrG, sameK_iff, true_and, and_true, decide_eq_true_eq, decide_eq_false_iff_not, ne_eq, not_false_eq_true, Bool.false_eq_true, Bool.true_eq_false, false_implies, true_implies, Ty.dflt, reduceCtorEq, beq_iff_eq, bne_iff_ne, beq_eq_false_iff_ne, bne_eq_false_iff_eq, Bool.not_eq_true, Bool.not_eq_eq_eq_not, Bool.not_true, Bool.not_false, gt_iff_lt, ge_iff_le, Int.not_lt, Int.not_le]
  repeat' (first | with_reducible refine And.intro ?_ ?_ | intro _)
  all_goals first | rfl | omega | assumption | trivial | (exfalso; simp_all; done) | (exfalso; omega) | skip
theorem e22 (m : Nat) (hm : m < W64) (zs : List Int) (z : Nat) : ∀ (k : Nat) (ys : List Int), k + z = 64 → ys.length ≤ k → ys ++ lstF z k m = zs → GetsK Tryd.prog Tryd.f22.results.toList [none] (KK m22) 0 (.own 0 0 zs.length none, [], [.data 3 (.int .i64) zs]) 0 (stOf 17 [0,3,4] [u64 m, .own 0 0 ys.length none, .v (.int .i64 (k : Int))] [.live (.data 3 (.int .i64) ys)]) := by
  induction z with
  | zero =>
    intro k ys hk hl h
    simp only [lstF, List.append_nil] at h
    subst h
    refine gets_vc spM (fun _ => [0,3,4]) (fun k => if k = 0 then [⟨3, 3, .int .i64⟩] else [⟨2, 3, .int .i64⟩]) 400 (.fork (.fork (.hd 0) (.hd 0)) .stop) (V := fun G R => (decide ((↑k : Int) < (64 : Int)) = true → Con Tryd.prog 33 [] [D.v (Value.int IntKind.u64 (↑m : Int)), D.v (Value.int IntKind.i64 (↑k : Int))] (D.v (Value.bool (hasN (↑m : Int).toNat (↑k : Int)))) [] [] ∧ Value.int IntKind.u64 (↑m : Int) = Value.int IntKind.u64 (↑m : Int) ∧ Value.int IntKind.i64 (↑k : Int) = Value.int IntKind.i64 (↑k : Int) ∧ (hasN (↑m : Int).toNat (↑k : Int) = true → roomy Tryd.prog 3 (ys.length + 1) ∧ SameK (KK m22 0) (KK m22 0) ∧ G 0 (stOf 17 [0, 3, 4] [D.v (Value.int IntKind.u64 (↑m : Int)), D.own 0 0 (ys.length + 1) none, D.v (Value.int IntKind.i64 (IntKind.i64.wrap ((↑k : Int) + (1 : Int))))] [Slot.live (Row.data 3 (Ty.int IntKind.i64) (List.take ys.length (List.drop 0 ys) ++ List.take 1 (List.drop 0 [(↑k : Int)])))])) ∧ (hasN (↑m : Int).toNat (↑k : Int) = false → SameK (KK m22 0) (KK m22 0) ∧ G 0 (stOf 17 [0, 3, 4] [D.v (Value.int IntKind.u64 (↑m : Int)), D.own 0 0 ys.length none, D.v (Value.int IntKind.i64 (IntKind.i64.wrap ((↑k : Int) + (1 : Int))))] [Slot.live (Row.data 3 (Ty.int IntKind.i64) ys)]))) ∧ (decide ((↑k : Int) < (64 : Int)) = false → R (D.own 0 0 ys.length none, [], [Row.data 3 (Ty.int IntKind.i64) ys]))) hmG (fun G R => by kernel_rfl) ?_
    simp (disch := omega) only [wrG, sameK_iff, true_and, and_true, decide_eq_true_eq, decide_eq_false_iff_not, ne_eq, not_false_eq_true, Bool.false_eq_true, Bool.true_eq_false, false_implies, true_implies, Ty.dflt, reduceCtorEq, beq_iff_eq, bne_iff_ne, beq_eq_false_iff_ne, bne_eq_false_iff_eq, Bool.not_eq_true, Bool.not_eq_eq_eq_not, Bool.not_true, Bool.not_false, gt_iff_lt, ge_iff_le, Int.not_lt, Int.not_le]
    repeat' (first | with_reducible refine And.intro ?_ ?_ | intro _)
    all_goals first | rfl | omega | assumption | trivial | (exfalso; simp_all; done) | (exfalso; omega) | skip
  | succ z ih =>
    intro k ys hk hl h
    simp only [lstF] at h
    have hk1 : IntKind.i64.wrap ((k : Int) + 1) = ((k + 1 : Nat) : Int) := by rw [wrG (by omega) (by omega)]; simp
    have c := d33 m (k : Int) hm
    have hhas : hasN m (k : Int) = m.testBit k := by unfold hasN; rw [decide_eq_true (by omega), decide_eq_true (by omega), Int.toNat_natCast]; rfl
    have hA := ih (k + 1) ys (by omega) (by omega)
    have hB := ih (k + 1) (ys ++ [(k : Int)]) (by omega) (by simp; omega)
    simp only [List.length_append, List.length_cons, List.length_nil, Nat.zero_add] at hB
    refine gets_vc spM (fun _ => [0,3,4]) (fun k => if k = 0 then [⟨3, 3, .int .i64⟩] else [⟨2, 3, .int .i64⟩]) 400 (.fork (.fork (.hd 0) (.hd 0)) .stop) (V := fun G R => (decide ((↑k : Int) < (64 : Int)) = true → Con Tryd.prog 33 [] [D.v (Value.int IntKind.u64 (↑m : Int)), D.v (Value.int IntKind.i64 (↑k : Int))] (D.v (Value.bool (hasN (↑m : Int).toNat (↑k : Int)))) [] [] ∧ Value.int IntKind.u64 (↑m : Int) = Value.int IntKind.u64 (↑m : Int) ∧ Value.int IntKind.i64 (↑k : Int) = Value.int IntKind.i64 (↑k : Int) ∧ (hasN (↑m : Int).toNat (↑k : Int) = true → roomy Tryd.prog 3 (ys.length + 1) ∧ SameK (KK m22 0) (KK m22 0) ∧ G 0 (stOf 17 [0, 3, 4] [D.v (Value.int IntKind.u64 (↑m : Int)), D.own 0 0 (ys.length + 1) none, D.v (Value.int IntKind.i64 (IntKind.i64.wrap ((↑k : Int) + (1 : Int))))] [Slot.live (Row.data 3 (Ty.int IntKind.i64) (List.take ys.length (List.drop 0 ys) ++ List.take 1 (List.drop 0 [(↑k : Int)])))])) ∧ (hasN (↑m : Int).toNat (↑k : Int) = false → SameK (KK m22 0) (KK m22 0) ∧ G 0 (stOf 17 [0, 3, 4] [D.v (Value.int IntKind.u64 (↑m : Int)), D.own 0 0 ys.length none, D.v (Value.int IntKind.i64 (IntKind.i64.wrap ((↑k : Int) + (1 : Int))))] [Slot.live (Row.data 3 (Ty.int IntKind.i64) ys)]))) ∧ (decide ((↑k : Int) < (64 : Int)) = false → R (D.own 0 0 ys.length none, [], [Row.data 3 (Ty.int IntKind.i64) ys]))) hmG (fun G R => by kernel_rfl) ?_
    simp only [Int.toNat_natCast, hhas, hk1, Nat.zero_add, List.drop_zero, List.take_length, List.take_succ_cons, List.take_zero] at c ⊢
    cases hb : m.testBit k with
    | true =>
      rw [hb] at h c
      have hx := hB (by rw [← h]; simp)
      simp (disch := omega) only [wrG, sameK_iff, true_and, and_true, decide_eq_true_eq, decide_eq_false_iff_not, ne_eq, not_false_eq_true, Bool.false_eq_true, Bool.true_eq_false, false_implies, true_implies, Ty.dflt, reduceCtorEq, beq_iff_eq, bne_iff_ne, beq_eq_false_iff_ne, bne_eq_false_iff_eq, Bool.not_eq_true, Bool.not_eq_eq_eq_not, Bool.not_true, Bool.not_false, gt_iff_lt, ge_iff_le, Int.not_lt, Int.not_le]
      repeat' (first | with_reducible refine And.intro ?_ ?_ | intro _)
      all_goals first | rfl | omega | assumption | trivial | exact room3 (by omega) | (exfalso; simp_all; done) | skip
    | false =>
      rw [hb] at h c
      have hx := hA (by rw [← h]; simp)
      simp (disch := omega) only [wrG, sameK_iff, true_and, and_true, decide_eq_true_eq, decide_eq_false_iff_not, ne_eq, not_false_eq_true, Bool.false_eq_true, Bool.true_eq_false, false_implies, true_implies, Ty.dflt, reduceCtorEq, beq_iff_eq, bne_iff_ne, beq_eq_false_iff_ne, bne_eq_false_iff_eq, Bool.not_eq_true, Bool.not_eq_eq_eq_not, Bool.not_true, Bool.not_false, gt_iff_lt, ge_iff_le, Int.not_lt, Int.not_le]
      repeat' (first | with_reducible refine And.intro ?_ ?_ | intro _)
      all_goals first | rfl | omega | assumption | trivial | exact room3 (by omega) | (exfalso; simp_all; done) | skip

theorem d22 (m : Nat) (hm : m < W64) : Con Tryd.prog 22 [] [u64 m] ((.own 0 0 (listN m).length none)) [] [.data 3 (.int .i64) (listN m)] := by
  refine con_vc (how := [none]) (c := m22) (K := (KK m22)) spM (fun _ => [0,3,4]) (fun k => if k = 0 then [⟨3, 3, .int .i64⟩] else [⟨2, 3, .int .i64⟩]) 400 (.hd 0) (V := fun G R => SameK (KK m22 0) (KK m22 0) ∧ G 0 (stOf 17 [0, 3, 4] [D.v (Value.int IntKind.u64 (↑m : Int)), D.own 0 0 0 none, D.v (Value.int IntKind.i64 (0 : Int))] [Slot.live (Row.data 3 (Ty.int IntKind.i64) [])])) hmG Tryd.func22 (by kernel_rfl) (by kernel_rfl) (fun G R => by kernel_rfl) ?_
  try dsimp only
  have hx := e22 m hm (listN m) 64 0 [] (by omega) (by simp) (by rfl)
  simp (disch := omega) only [wrG, sameK_iff, true_and, and_true, decide_eq_true_eq, decide_eq_false_iff_not, ne_eq, not_false_eq_true, Bool.false_eq_true, Bool.true_eq_false, false_implies, true_implies, Ty.dflt, reduceCtorEq, beq_iff_eq, bne_iff_ne, beq_eq_false_iff_ne, bne_eq_false_iff_eq, Bool.not_eq_true, Bool.not_eq_eq_eq_not, Bool.not_true, Bool.not_false, gt_iff_lt, ge_iff_le, Int.not_lt, Int.not_le]
  repeat' (first | with_reducible refine And.intro ?_ ?_ | intro _)
  all_goals first | rfl | omega | assumption | trivial | (exfalso; simp_all; done) | (exfalso; omega) | skip

end Go.Proofs.YtnakmganodkliaaDoorAm
