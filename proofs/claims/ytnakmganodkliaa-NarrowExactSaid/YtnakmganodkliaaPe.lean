/- What the law of narrowing leans on: the logic and the contracts of the functions that it calls (part 5) -/
import Derived.Test.YtnakmganodkliaaPd
set_option linter.unusedVariables false
set_option linter.unusedSimpArgs false
set_option maxRecDepth 100000
namespace Go.Proofs.YtnakmganodkliaaAm
open Go
def vq22 (n : Nat) (w : List Int) (k : Int) (th : List Nat) (G : Nat → St → Prop) (R : D × List (Option Row) × List Row → Prop) : Prop := (decide (k < (↑w.length : Int)) = true → (0 : Int) ≤ k ∧ k < (↑w.length : Int) ∧ (0 : Int) ≤ k ∧ k < (↑n : Int) ∧ 0 + k.toNat < (Mi th).length ∧ ¬w.getD k.toNat (Ty.int IntKind.i64).dflt < (0 : Int) ∧ (0 : Int) ≤ k ∧ k < (↑n : Int) ∧ 0 + k.toNat < (Mi th).length ∧ SameK (KK n124 1) (KK n124 1) ∧ G 1 (stOf 60 [3, 44, 45, 46] [D.ptr 0 0 0, D.sl false false (Ty.int IntKind.i64) w, D.v (Value.int IntKind.i64 (↑w.length : Int)), D.v (Value.int IntKind.i64 (IntKind.i64.wrap (k + (1 : Int))))] [Slot.live (Row.box 66 [D.own 1 0 n (some n)]), Slot.live (Row.data 80 (Ty.int IntKind.u64) ((Mi th).set (0 + k.toNat) (IntKind.u64.wrap (↑(BitVec.ofInt 64 ((Mi th).getD (0 + k.toNat) (Ty.int IntKind.u64).dflt) ||| BitVec.ofInt 64 (IntKind.u64.wrap ((1 : Int) * (2 : Int) ^ min (Int.toNat (w.getD k.toNat (Ty.int IntKind.i64).dflt)) 64))).toNat : Int))))])) ∧ (decide (k < (↑w.length : Int)) = false → R (D.v (Value.bool false), [some (Row.box 66 [D.own 1 0 n (some n)]), some (Row.data 80 (Ty.int IntKind.u64) (Mi th))], []))
theorem e124b (W : List (List Int)) (S : List Slt) (m : List Nat) (C : List Int) (n : Nat) (i : Int) (w : List Int) (hwl : w.length = n) (hn : n ≤ 300) (hw : ∀ c ∈ w, 0 ≤ c ∧ c < 64) (thE : List Nat) (z : Nat) : ∀ (k : Int) (th : List Nat), 0 ≤ k → k + z = w.length → th.length = n → Smalls th → orW k.toNat (w.drop k.toNat) th = thE → GetsK Try.prog Try.f124.results.toList [none] (KK n124) 2 (.v (.bool false), [some (.box 66 [.own 1 0 n (some n)]), some (.data 80 (.int .u64) (Mi thE))], []) 1 (stOf 60 [3,44,45,46] [.ptr 0 0 0, slI w, .v (.int .i64 w.length), .v (.int .i64 k)] [.live (.box 66 [.own 1 0 n (some n)]), .live (.data 80 (.int .u64) (Mi th))]) := by
  induction z with
  | zero =>
    intro k th k0 hk hth hts he
    rw [List.drop_eq_nil_of_le (by omega)] at he
    have he : th = thE := he
    subst he
    refine gets_vc spNa (fun k => [[0,1,2,3,16,17,18],[3,44,45,46]].getD k []) (fun _ => []) 400 (.fork (.hd 1) .stop) (V := vq22 n w k th) hmG (fun G R => by kernel_rfl) ?_
    unfold vq22
    try dsimp only
    simp (disch := omega) only [wrG, sameK_iff, true_and, and_true, decide_eq_true_eq, decide_eq_false_iff_not, ne_eq, not_false_eq_true, Bool.false_eq_true, Bool.true_eq_false, false_implies, true_implies, Ty.dflt, reduceCtorEq, beq_iff_eq, bne_iff_ne, beq_eq_false_iff_ne, bne_eq_false_iff_eq, Bool.not_eq_true, Bool.not_eq_eq_eq_not, Bool.not_true, Bool.not_false, gt_iff_lt, ge_iff_le, Int.not_lt, Int.not_le]
    repeat' (first | with_reducible refine And.intro ?_ ?_ | intro _)
    all_goals first | rfl | omega | assumption | trivial | exact room3 (by omega) | (exfalso; simp_all; done) | (exfalso; omega) | skip
  | succ z ih =>
    intro k th k0 hk hth hts he
    rw [drop_at (xs := w) (i := k) (0 : Int) k0 (by omega)] at he
    simp only [orW] at he
    have hc := hw _ (getD_in (d := 0) (k := k.toNat) (l := w) (by omega))
    obtain ⟨c, hcc⟩ : ∃ c, w.getD k.toNat 0 = c := ⟨_, rfl⟩
    rw [hcc] at he hc
    have hbc : bitN c = 2 ^ c.toNat := if_neg (by omega)
    rw [hbc] at he
    have hk1 : IntKind.i64.wrap (k + 1) = k + 1 := wrG (by omega) (by omega)
    have hstep := of_step (th.getD k.toNat 0) c hc.1 hc.2 (hts.at _)
    have hsh := shl1 hc.1 hc.2
    have hx := ih (k + 1) (th.set k.toNat (th.getD k.toNat 0 ||| 2 ^ c.toNat)) (by omega) (by omega) (by rw [List.length_set]; exact hth) (by
      intro y hy
      rcases List.mem_or_eq_of_mem_set hy with hy | hy
      · exact hts y hy
      · rw [hy]; exact or_lt (hts.at _) (u64_mask (by omega))) (by rw [show (k + 1).toNat = k.toNat + 1 by omega] at he ⊢; exact he)
    refine gets_vc spNa (fun k => [[0,1,2,3,16,17,18],[3,44,45,46]].getD k []) (fun _ => []) 400 (.fork (.hd 1) .stop) (V := vq22 n w k th) hmG (fun G R => by kernel_rfl) ?_
    unfold vq22
    try dsimp only
    simp only [Ty.dflt, hk1, hcc, take_len, List.drop_zero, List.take_length, Mi_getD, Mi_len, Nt_Mi, Int.toNat_natCast, Mi_set, Nat.zero_add, Nat.sub_zero, orI_len, orW_len, hsh, hstep]
    simp (disch := omega) only [wrG, sameK_iff, true_and, and_true, decide_eq_true_eq, decide_eq_false_iff_not, ne_eq, not_false_eq_true, Bool.false_eq_true, Bool.true_eq_false, false_implies, true_implies, Ty.dflt, reduceCtorEq, beq_iff_eq, bne_iff_ne, beq_eq_false_iff_ne, bne_eq_false_iff_eq, Bool.not_eq_true, Bool.not_eq_eq_eq_not, Bool.not_true, Bool.not_false, gt_iff_lt, ge_iff_le, Int.not_lt, Int.not_le]
    repeat' (first | with_reducible refine And.intro ?_ ?_ | intro _)
    all_goals first | rfl | omega | assumption | trivial | exact room3 (by omega) | (exfalso; simp_all; done) | (exfalso; omega) | skip
def vq23 (W : List (List Int)) (S : List Slt) (m : List Nat) (C : List Int) (n : Nat) (i : Int) (w : List Int) (th : List Nat) (k : Int) (G : Nat → St → Prop) (R : D × List (Option Row) × List Row → Prop) : Prop := let yy0 := (IntKind.u64.wrap (↑(BitVec.ofInt 64 (Int.fdiv ((Mi m).getD (Int.toNat (C.getD k.toNat (Ty.int IntKind.i64).dflt)) (Ty.int IntKind.u64).dflt) ((2 : Int) ^ min (Int.toNat (w.getD k.toNat (Ty.int IntKind.i64).dflt)) 64)) &&& BitVec.ofInt 64 (1 : Int)).toNat : Int) == (0 : Int)); let yy1 := (Ty.int IntKind.i64); let yy2 := (Row.data 80 (Ty.int IntKind.u64) (Mi th)); (decide (k < (↑w.length : Int)) = true → (0 : Int) ≤ k ∧ k < (↑w.length : Int) ∧ (0 : Int) ≤ k ∧ k < (↑C.length : Int) ∧ (0 : Int) ≤ C.getD k.toNat yy1.dflt ∧ C.getD k.toNat yy1.dflt < (↑(Mi m).length : Int) ∧ ¬w.getD k.toNat yy1.dflt < (0 : Int) ∧ (yy0 = true → R (D.v (Value.bool true), [some (Row.box 66 [D.own 1 0 n (some n)]), some yy2], [])) ∧ (yy0 = false → SameK (KK n124 0) (KK n124 0) ∧ G 0 (stOf 60 [0, 1, 2, 3, 16, 17, 18] [D.v (Value.int IntKind.i64 i), D.rptr [D.rptr [D.sl false false yy1.sl W, D.sl false false (yy1.prod (Ty.bool.prod yy1.sl)) S, D.sl false false (Ty.int IntKind.u64) (Mi m), D.top]], D.rptr [D.sl false false yy1 C], D.ptr 0 0 0, D.sl false false yy1 w, D.v (Value.int IntKind.i64 (↑w.length : Int)), D.v (Value.int IntKind.i64 (IntKind.i64.wrap (k + (1 : Int))))] [Slot.live (Row.box 66 [D.own 1 0 n (some n)]), Slot.live yy2]))) ∧ (decide (k < (↑w.length : Int)) = false → (0 : Int) ≤ i ∧ i < (↑W.length : Int) ∧ SameK (KK n124 1) (KK n124 1) ∧ G 1 (stOf 60 [3, 44, 45, 46] [D.ptr 0 0 0, D.sl false false yy1 (W.getD i.toNat yy1.sl.dflt), D.v (Value.int IntKind.i64 (↑(List.length (W.getD i.toNat yy1.sl.dflt)) : Int)), D.v (Value.int IntKind.i64 (0 : Int))] [Slot.live (Row.box 66 [D.own 1 0 n (some n)]), Slot.live yy2]))
theorem e124a (W : List (List Int)) (S : List Slt) (m : List Nat) (C : List Int) (n : Nat) (i : Int) (w : List Int) (i0 : 0 ≤ i) (i1 : i < W.length) (hwi : W.getD i.toNat [] = w) (hwl : w.length = C.length) (hn : C.length = n) (hn3 : n ≤ 300) (hw : ∀ c ∈ w, 0 ≤ c ∧ c < 64) (hC : ∀ c ∈ C, 0 ≤ c ∧ c < m.length) (hm : Smalls m) (th : List Nat) (hth : th.length = n) (hts : Smalls th) (z : Nat) : ∀ (k : Int), 0 ≤ k → k + z = w.length → ∀ r, r = ((C.drop k.toNat).zip (w.drop k.toNat)).all (fun q => hasN (m.getD q.1.toNat 0) q.2) → GetsK Try.prog Try.f124.results.toList [none] (KK n124) 2 (.v (.bool (!r)), [some (.box 66 [.own 1 0 n (some n)]), some (.data 80 (.int .u64) (Mi (if r then orW 0 w th else th)))], []) 0 (stOf 60 [0,1,2,3,16,17,18] [.v (.int .i64 i), envD W S m, .rptr [slI C], .ptr 0 0 0, slI w, .v (.int .i64 w.length), .v (.int .i64 k)] [.live (.box 66 [.own 1 0 n (some n)]), .live (.data 80 (.int .u64) (Mi th))]) := by
  induction z with
  | zero =>
    intro k k0 hk r hr
    rw [List.drop_eq_nil_of_le (by omega)] at hr
    have hr : r = true := by rw [hr]; rfl
    subst hr
    have hx := e124b W S m C n i w (by omega) hn3 hw (orW 0 w th) w.length 0 th (by omega) (by omega) hth hts rfl
    refine gets_vc spNa (fun k => [[0,1,2,3,16,17,18],[3,44,45,46]].getD k []) (fun _ => []) 400 (.fork (.fork .stop (.hd 0)) (.hd 1)) (V := vq23 W S m C n i w th k) hmG (fun G R => by kernel_rfl) ?_
    unfold vq23
    try dsimp only
    simp only [Ty.dflt, hwi, Bool.not_true, if_true]
    simp (disch := omega) only [wrG, sameK_iff, true_and, and_true, decide_eq_true_eq, decide_eq_false_iff_not, ne_eq, not_false_eq_true, Bool.false_eq_true, Bool.true_eq_false, false_implies, true_implies, Ty.dflt, reduceCtorEq, beq_iff_eq, bne_iff_ne, beq_eq_false_iff_ne, bne_eq_false_iff_eq, Bool.not_eq_true, Bool.not_eq_eq_eq_not, Bool.not_true, Bool.not_false, gt_iff_lt, ge_iff_le, Int.not_lt, Int.not_le]
    repeat' (first | with_reducible refine And.intro ?_ ?_ | intro _)
    all_goals first | rfl | omega | assumption | trivial | exact room3 (by omega) | (exfalso; simp_all; done) | (exfalso; omega) | skip
  | succ z ih =>
    intro k k0 hk r hr
    rw [drop_at (xs := C) (i := k) (0 : Int) k0 (by omega), drop_at (xs := w) (i := k) (0 : Int) k0 (by omega)] at hr
    simp only [List.zip_cons_cons, List.all_cons] at hr
    have hk1 : IntKind.i64.wrap (k + 1) = k + 1 := wrG (by omega) (by omega)
    have hx := ih (k + 1) (by omega) (by omega) _ rfl
    have hc := hC (C.getD k.toNat 0) (getD_in (by omega))
    have hl := hw (w.getD k.toNat 0) (getD_in (by omega))
    have hb := bit_and (m.getD (C.getD k.toNat 0).toNat 0) (hm.at _) hl.1 hl.2
    refine gets_vc spNa (fun k => [[0,1,2,3,16,17,18],[3,44,45,46]].getD k []) (fun _ => []) 400 (.fork (.fork .stop (.hd 0)) (.hd 1)) (V := vq23 W S m C n i w th k) hmG (fun G R => by kernel_rfl) ?_
    unfold vq23
    try dsimp only
    simp only [Ty.dflt, hk1, take_len, List.drop_zero, List.take_length, Mi_getD, Mi_len, Nt_Mi, Int.toNat_natCast, Mi_set, Nat.zero_add, Nat.sub_zero, orI_len, orW_len, hb]
    cases ho : hasN (m.getD (C.getD k.toNat 0).toNat 0) (w.getD k.toNat 0) <;> rw [ho] at hr <;> simp only [Bool.true_and, Bool.false_and] at hr <;> subst hr <;> simp only [Bool.not_false, Bool.not_true]
    all_goals simp (disch := omega) only [wrG, sameK_iff, true_and, and_true, decide_eq_true_eq, decide_eq_false_iff_not, ne_eq, not_false_eq_true, Bool.false_eq_true, Bool.true_eq_false, false_implies, true_implies, Ty.dflt, reduceCtorEq, beq_iff_eq, bne_iff_ne, beq_eq_false_iff_ne, bne_eq_false_iff_eq, Bool.not_eq_true, Bool.not_eq_eq_eq_not, Bool.not_true, Bool.not_false, gt_iff_lt, ge_iff_le, Int.not_lt, Int.not_le]; repeat' (first | with_reducible refine And.intro ?_ ?_ | intro _)
    all_goals first | rfl | omega | assumption | trivial | exact room3 (by omega) | (exfalso; simp_all; done) | (exfalso; omega) | skip
theorem d124 (W : List (List Int)) (S : List Slt) (m : List Nat) (C : List Int) (n : Nat) (th : List Nat) (i : Int) (i0 : 0 ≤ i) (i1 : i < W.length) (hwl : (wordAt W i).length = C.length) (hn : C.length = n) (hn3 : n ≤ 300) (hw : ∀ c ∈ wordAt W i, 0 ≤ c ∧ c < 64) (hC : ∀ c ∈ C, 0 ≤ c ∧ c < m.length) (hm : Smalls m) (hth : th.length = n) (hts : Smalls th) : Con Try.prog 124 [.box 66 [.own 1 0 n (some n)], .data 80 (.int .u64) (Mi th)] [.v (.int .i64 i), envD W S m, .rptr [slI C], .ptr 0 0 0] (.v (.bool (!fitL m C (wordAt W i)))) [some (.box 66 [.own 1 0 n (some n)]), some (.data 80 (.int .u64) (Mi (orI W m C th [i])))] [] := by
  refine con_vc (how := [none]) (c := n124) (K := (KK n124)) spNa (fun k => [[0,1,2,3,16,17,18],[3,44,45,46]].getD k []) (fun _ => []) 400 (.hd 0) (V := fun G R => let yy0 := (Ty.int IntKind.i64); (0 : Int) ≤ i ∧ i < (↑W.length : Int) ∧ SameK (KK n124 0) (KK n124 0) ∧ G 0 (stOf 60 [0, 1, 2, 3, 16, 17, 18] [D.v (Value.int IntKind.i64 i), D.rptr [D.rptr [D.sl false false yy0.sl W, D.sl false false (yy0.prod (Ty.bool.prod yy0.sl)) S, D.sl false false (Ty.int IntKind.u64) (Mi m), D.top]], D.rptr [D.sl false false yy0 C], D.ptr 0 0 0, D.sl false false yy0 (W.getD i.toNat yy0.sl.dflt), D.v (Value.int IntKind.i64 (↑(List.length (W.getD i.toNat yy0.sl.dflt)) : Int)), D.v (Value.int IntKind.i64 (0 : Int))] [Slot.live (Row.box 66 [D.own 1 0 n (some n)]), Slot.live (Row.data 80 (Ty.int IntKind.u64) (Mi th))])) hmG Try.func124 (by kernel_rfl) (by kernel_rfl) (fun G R => by kernel_rfl) ?_
  try dsimp only
  try dsimp only
  obtain ⟨w, hwi⟩ : ∃ w, W.getD i.toNat [] = w := ⟨_, rfl⟩
  rw [orI_one]
  unfold wordAt at hwl hw ⊢
  rw [hwi] at hwl hw ⊢
  have e : fitL m C w = (C.zip w).all (fun q => hasN (m.getD q.1.toNat 0) q.2) := by
    unfold fitL
    rw [hwl, beq_self_eq_true, Bool.true_and]
  have hx := e124a W S m C n i w i0 i1 hwi hwl hn hn3 hw hC hm th hth hts w.length 0 (by omega) (by omega) (fitL m C w) (by rw [e]; rfl)
  simp only [Ty.dflt, hwi]
  simp (disch := omega) only [wrG, sameK_iff, true_and, and_true, decide_eq_true_eq, decide_eq_false_iff_not, ne_eq, not_false_eq_true, Bool.false_eq_true, Bool.true_eq_false, false_implies, true_implies, Ty.dflt, reduceCtorEq, beq_iff_eq, bne_iff_ne, beq_eq_false_iff_ne, bne_eq_false_iff_eq, Bool.not_eq_true, Bool.not_eq_eq_eq_not, Bool.not_true, Bool.not_false, gt_iff_lt, ge_iff_le, Int.not_lt, Int.not_le]
  repeat' (first | with_reducible refine And.intro ?_ ?_ | intro _)
  all_goals first | rfl | omega | assumption | trivial | exact room3 (by omega) | (exfalso; simp_all; done) | (exfalso; omega) | skip
theorem e128t (W : List (List Int)) (S : List Slt) (m : List Nat) (C : List Int) (n : Nat) (L : List Int) (hn : C.length = n) (F : LookOk W m C L) (z : Nat) : ∀ (k : Int) (th : List Nat), 0 ≤ k → k + z = L.length → th.length = n → Smalls th → ∀ r thE, r = findI (fun i => !fitL m C (wordAt W i)) k (L.drop k.toNat) → thE = orI W m C th ((L.drop k.toNat).takeWhile fun i => fitL m C (wordAt W i)) → GetsK Try.prog Try.f128.results.toList [none] (KK n128) 2 (.v (.int .i64 r), [some (.box 66 [.own 1 0 n (some n)]), some (.data 80 (.int .u64) (Mi thE))], []) 0 (stOf 19 [0,1,7,8] [slI L, .fn 124 [envD W S m, .rptr [slI C], .ptr 0 0 0], .v (.int .i64 L.length), .v (.int .i64 k)] [.live (.box 66 [.own 1 0 n (some n)]), .live (.data 80 (.int .u64) (Mi th))]) := by
  have hL := F.long
  have hsz := F.size
  induction z with
  | zero =>
    intro k th k0 hk hth hts r thE hr he
    rw [List.drop_eq_nil_of_le (by omega)] at hr he
    have hr : r = -1 := hr
    have he : thE = th := he
    subst hr; subst he
    refine gets_vc spNa (fun k => [0,1,7,8]) (fun _ => []) 400 (.fork (.fork .stop (.hd 0)) .stop) (V := fun G R => let yy0 := (Ty.int IntKind.i64); let yy1 := (Row.data 80 (Ty.int IntKind.u64) (Mi (orI W (Nt (Mi m)) C (Nt (Mi thE)) [L.getD k.toNat yy0.dflt]))); let yy2 := (Row.box 66 [D.own 1 0 n (some n)]); let yy3 := (L.getD k.toNat yy0.dflt); let yy4 := (Ty.int IntKind.u64); (decide (k < (↑L.length : Int)) = true → (0 : Int) ≤ k ∧ k < (↑L.length : Int) ∧ Con Try.prog 124 [Row.box 66 [D.own 1 0 n (some n)], Row.data 80 yy4 (Mi (Nt (Mi thE)))] [D.v (Value.int IntKind.i64 yy3), D.rptr [D.rptr [D.sl false false yy0.sl W, D.sl false false (yy0.prod (Ty.bool.prod yy0.sl)) S, D.sl false false yy4 (Mi (Nt (Mi m))), D.top]], D.rptr [D.sl false false yy0 C], D.ptr 0 0 0] (D.v (Value.bool !fitL (Nt (Mi m)) C (wordAt W yy3))) [some yy2, some yy1] [] ∧ Value.int IntKind.i64 yy3 = Value.int IntKind.i64 yy3 ∧ W = W ∧ S = S ∧ Mi m = Mi (Nt (Mi m)) ∧ C = C ∧ 0 = 0 ∧ 0 = 0 ∧ 0 = 0 ∧ (Mi (orI W (Nt (Mi m)) C (Nt (Mi thE)) [L.getD k.toNat yy0.dflt])).length = (Mi (Nt (Mi thE))).length ∧ some yy2 = some yy2 ∧ some (Row.data 80 yy4 (Mi thE)) = some (Row.data 80 yy4 (Mi (Nt (Mi thE)))) ∧ ((!fitL (Nt (Mi m)) C (wordAt W yy3)) = true → R (D.v (Value.int IntKind.i64 k), [some yy2, some yy1], [])) ∧ ((!fitL (Nt (Mi m)) C (wordAt W yy3)) = false → SameK (KK n128 0) (KK n128 0) ∧ G 0 (stOf 19 [0, 1, 7, 8] [D.sl false false yy0 L, D.fn 124 [D.rptr [D.rptr [D.sl false false yy0.sl W, D.sl false false (yy0.prod (Ty.bool.prod yy0.sl)) S, D.sl false false yy4 (Mi m), D.top]], D.rptr [D.sl false false yy0 C], D.ptr 0 0 0], D.v (Value.int IntKind.i64 (↑L.length : Int)), D.v (Value.int IntKind.i64 (IntKind.i64.wrap (k + (1 : Int))))] [Slot.live yy2, Slot.live yy1]))) ∧ (decide (k < (↑L.length : Int)) = false → R (D.v (Value.int IntKind.i64 (-1 : Int)), [some yy2, some (Row.data 80 yy4 (Mi thE))], []))) hmG (fun G R => by kernel_rfl) ?_
    try dsimp only
    simp (disch := omega) only [wrG, sameK_iff, true_and, and_true, decide_eq_true_eq, decide_eq_false_iff_not, ne_eq, not_false_eq_true, Bool.false_eq_true, Bool.true_eq_false, false_implies, true_implies, Ty.dflt, reduceCtorEq, beq_iff_eq, bne_iff_ne, beq_eq_false_iff_ne, bne_eq_false_iff_eq, Bool.not_eq_true, Bool.not_eq_eq_eq_not, Bool.not_true, Bool.not_false, gt_iff_lt, ge_iff_le, Int.not_lt, Int.not_le]
    repeat' (first | with_reducible refine And.intro ?_ ?_ | intro _)
    all_goals first | rfl | omega | assumption | trivial | exact room3 (by omega) | (exfalso; simp_all; done) | (exfalso; omega) | skip
  | succ z ih =>
    intro k th k0 hk hth hts r thE hr he
    rw [drop_at (xs := L) (i := k) (0 : Int) k0 (by omega)] at hr he
    have hi := F.mem _ (getD_in (d := 0) (k := k.toNat) (l := L) (by omega))
    obtain ⟨i, hii⟩ : ∃ i, L.getD k.toNat 0 = i := ⟨_, rfl⟩
    rw [hii] at hr he hi
    have c1 := d124 W S m C n th i hi.1 hi.2.1 hi.2.2.1 hn (by omega) hi.2.2.2 F.cells F.small hth hts
    have hk1 : IntKind.i64.wrap (k + 1) = k + 1 := wrG (by omega) (by omega)
    simp only [findI, List.takeWhile_cons] at hr he
    have hx := ih (k + 1) (orI W m C th [i]) (by omega) (by omega) (by rw [orI_len]; exact hth) (orI_small W m C [i] th (fun x hx => by rw [List.mem_singleton.1 hx]; exact hi.2.2.2) hts) _ _ rfl rfl
    refine gets_vc spNa (fun k => [0,1,7,8]) (fun _ => []) 400 (.fork (.fork .stop (.hd 0)) .stop) (V := fun G R => let yy0 := (Ty.int IntKind.i64); let yy1 := (Row.data 80 (Ty.int IntKind.u64) (Mi (orI W (Nt (Mi m)) C (Nt (Mi th)) [L.getD k.toNat yy0.dflt]))); let yy2 := (Row.box 66 [D.own 1 0 n (some n)]); let yy3 := (L.getD k.toNat yy0.dflt); let yy4 := (Ty.int IntKind.u64); (decide (k < (↑L.length : Int)) = true → (0 : Int) ≤ k ∧ k < (↑L.length : Int) ∧ Con Try.prog 124 [Row.box 66 [D.own 1 0 n (some n)], Row.data 80 yy4 (Mi (Nt (Mi th)))] [D.v (Value.int IntKind.i64 yy3), D.rptr [D.rptr [D.sl false false yy0.sl W, D.sl false false (yy0.prod (Ty.bool.prod yy0.sl)) S, D.sl false false yy4 (Mi (Nt (Mi m))), D.top]], D.rptr [D.sl false false yy0 C], D.ptr 0 0 0] (D.v (Value.bool !fitL (Nt (Mi m)) C (wordAt W yy3))) [some yy2, some yy1] [] ∧ Value.int IntKind.i64 yy3 = Value.int IntKind.i64 yy3 ∧ W = W ∧ S = S ∧ Mi m = Mi (Nt (Mi m)) ∧ C = C ∧ 0 = 0 ∧ 0 = 0 ∧ 0 = 0 ∧ (Mi (orI W (Nt (Mi m)) C (Nt (Mi th)) [L.getD k.toNat yy0.dflt])).length = (Mi (Nt (Mi th))).length ∧ some yy2 = some yy2 ∧ some (Row.data 80 yy4 (Mi th)) = some (Row.data 80 yy4 (Mi (Nt (Mi th)))) ∧ ((!fitL (Nt (Mi m)) C (wordAt W yy3)) = true → R (D.v (Value.int IntKind.i64 k), [some yy2, some yy1], [])) ∧ ((!fitL (Nt (Mi m)) C (wordAt W yy3)) = false → SameK (KK n128 0) (KK n128 0) ∧ G 0 (stOf 19 [0, 1, 7, 8] [D.sl false false yy0 L, D.fn 124 [D.rptr [D.rptr [D.sl false false yy0.sl W, D.sl false false (yy0.prod (Ty.bool.prod yy0.sl)) S, D.sl false false yy4 (Mi m), D.top]], D.rptr [D.sl false false yy0 C], D.ptr 0 0 0], D.v (Value.int IntKind.i64 (↑L.length : Int)), D.v (Value.int IntKind.i64 (IntKind.i64.wrap (k + (1 : Int))))] [Slot.live yy2, Slot.live yy1]))) ∧ (decide (k < (↑L.length : Int)) = false → R (D.v (Value.int IntKind.i64 (-1 : Int)), [some yy2, some (Row.data 80 yy4 (Mi th))], []))) hmG (fun G R => by kernel_rfl) ?_
    try dsimp only
    simp only [Ty.dflt, hk1, hii, take_len, List.drop_zero, List.take_length, Mi_getD, Mi_len, Nt_Mi, Int.toNat_natCast, Mi_set, Nat.zero_add, Nat.sub_zero, orI_len, orW_len]
    rcases Bool.eq_false_or_eq_true (fitL m C (wordAt W i)) with h | h
    · simp only [Bool.not_true, Bool.false_eq_true, if_false, if_true, orI_cons, h] at hr he
      rw [← hr] at hx
      simp only [orI_one, h, if_true, Bool.not_true] at hx c1
      rw [← he] at hx
      simp only [h, orI_one, Bool.not_true, if_true]
      simp (disch := omega) only [wrG, sameK_iff, true_and, and_true, decide_eq_true_eq, decide_eq_false_iff_not, ne_eq, not_false_eq_true, Bool.false_eq_true, Bool.true_eq_false, false_implies, true_implies, Ty.dflt, reduceCtorEq, beq_iff_eq, bne_iff_ne, beq_eq_false_iff_ne, bne_eq_false_iff_eq, Bool.not_eq_true, Bool.not_eq_eq_eq_not, Bool.not_true, Bool.not_false, gt_iff_lt, ge_iff_le, Int.not_lt, Int.not_le]
      repeat' (first | with_reducible refine And.intro ?_ ?_ | intro _)
      all_goals first | rfl | omega | assumption | trivial | exact room3 (by omega) | (exfalso; simp_all; done) | (exfalso; omega) | skip
    · simp only [h, Bool.not_false, if_true, Bool.false_eq_true, if_false] at hr he
      have he : thE = th := he
      simp only [orI_one, h, Bool.false_eq_true, if_false, Bool.not_false] at c1
      subst hr; subst he
      simp only [h, orI_one, Bool.not_false, Bool.false_eq_true, if_false]
      simp (disch := omega) only [wrG, sameK_iff, true_and, and_true, decide_eq_true_eq, decide_eq_false_iff_not, ne_eq, not_false_eq_true, Bool.false_eq_true, Bool.true_eq_false, false_implies, true_implies, Ty.dflt, reduceCtorEq, beq_iff_eq, bne_iff_ne, beq_eq_false_iff_ne, bne_eq_false_iff_eq, Bool.not_eq_true, Bool.not_eq_eq_eq_not, Bool.not_true, Bool.not_false, gt_iff_lt, ge_iff_le, Int.not_lt, Int.not_le]
      repeat' (first | with_reducible refine And.intro ?_ ?_ | intro _)
      all_goals first | rfl | omega | assumption | trivial | exact room3 (by omega) | (exfalso; simp_all; done) | (exfalso; omega) | skip
theorem d128t (W : List (List Int)) (S : List Slt) (m : List Nat) (C : List Int) (n : Nat) (L : List Int) (th : List Nat) (hn : C.length = n) (F : LookOk W m C L) (hth : th.length = n) (hts : Smalls th) : Con Try.prog 128 [.box 66 [.own 1 0 n (some n)], .data 80 (.int .u64) (Mi th)] [slI L, .fn 124 [envD W S m, .rptr [slI C], .ptr 0 0 0]] (.v (.int .i64 (findI (fun i => !fitL m C (wordAt W i)) 0 L))) [some (.box 66 [.own 1 0 n (some n)]), some (.data 80 (.int .u64) (Mi (orI W m C th (L.takeWhile fun i => fitL m C (wordAt W i)))))] [] := by
  refine con_vc (how := [none]) (c := n128) (K := (KK n128)) spNa (fun k => [0,1,7,8]) (fun _ => []) 400 (.hd 0) (V := fun G R => let yy0 := (Ty.int IntKind.i64); SameK (KK n128 0) (KK n128 0) ∧ G 0 (stOf 19 [0, 1, 7, 8] [D.sl false false yy0 L, D.fn 124 [D.rptr [D.rptr [D.sl false false yy0.sl W, D.sl false false (yy0.prod (Ty.bool.prod yy0.sl)) S, D.sl false false (Ty.int IntKind.u64) (Mi m), D.top]], D.rptr [D.sl false false yy0 C], D.ptr 0 0 0], D.v (Value.int IntKind.i64 (↑L.length : Int)), D.v (Value.int IntKind.i64 (0 : Int))] [Slot.live (Row.box 66 [D.own 1 0 n (some n)]), Slot.live (Row.data 80 (Ty.int IntKind.u64) (Mi th))])) hmG Try.func128 (by kernel_rfl) (by kernel_rfl) (fun G R => by kernel_rfl) ?_
  try dsimp only
  try dsimp only
  have hx := e128t W S m C n L hn F L.length 0 th (by omega) (by omega) hth hts _ _ rfl rfl
  simp only [show (0 : Int).toNat = 0 by rfl, List.drop_zero] at hx
  simp (disch := omega) only [wrG, sameK_iff, true_and, and_true, decide_eq_true_eq, decide_eq_false_iff_not, ne_eq, not_false_eq_true, Bool.false_eq_true, Bool.true_eq_false, false_implies, true_implies, Ty.dflt, reduceCtorEq, beq_iff_eq, bne_iff_ne, beq_eq_false_iff_ne, bne_eq_false_iff_eq, Bool.not_eq_true, Bool.not_eq_eq_eq_not, Bool.not_true, Bool.not_false, gt_iff_lt, ge_iff_le, Int.not_lt, Int.not_le]
  repeat' (first | with_reducible refine And.intro ?_ ?_ | intro _)
  all_goals first | rfl | omega | assumption | trivial | exact room3 (by omega) | (exfalso; simp_all; done) | (exfalso; omega) | skip
def vq24 (W : List (List Int)) (S : List Slt) (m : List Nat) (C : List Int) (n : Nat) (L : List Int) (j : Int) (i : Int) (xs : List Int) (th : List Nat) (G : Nat → St → Prop) (R : D × List (Option Row) × List Row → Prop) : Prop := let yy0 := (Ty.int IntKind.i64); let yy1 := (Row.data 80 (Ty.int IntKind.u64) (Mi (orI W (Nt (Mi m)) C (Nt (Mi th)) [xs.getD (0 + j.toNat) yy0.dflt]))); let yy2 := (xs.getD (0 + j.toNat) yy0.dflt); let yy3 := (List.take (0 + i.toNat) xs ++ List.replicate ((↑L.length : Int).toNat - i.toNat) (0 : Int) ++ List.drop (0 + i.toNat + ((↑L.length : Int).toNat - i.toNat)) xs); let yy4 := (Row.box 66 [D.own 2 0 n (some n)]); let yy5 := (Ty.int IntKind.u64); let yy6 := (↑L.length : Int); (decide (j < yy6) = true → (0 : Int) ≤ j ∧ j < yy6 ∧ 0 + j.toNat < xs.length ∧ Con Try.prog 124 [Row.box 66 [D.own 1 0 n (some n)], Row.data 80 yy5 (Mi (Nt (Mi th)))] [D.v (Value.int IntKind.i64 yy2), D.rptr [D.rptr [D.sl false false yy0.sl W, D.sl false false (yy0.prod (Ty.bool.prod yy0.sl)) S, D.sl false false yy5 (Mi (Nt (Mi m))), D.top]], D.rptr [D.sl false false yy0 C], D.ptr 0 0 0] (D.v (Value.bool !fitL (Nt (Mi m)) C (wordAt W yy2))) [some (Row.box 66 [D.own 1 0 n (some n)]), some yy1] [] ∧ Value.int IntKind.i64 yy2 = Value.int IntKind.i64 yy2 ∧ W = W ∧ S = S ∧ Mi m = Mi (Nt (Mi m)) ∧ C = C ∧ 1 = 1 ∧ 0 = 0 ∧ 0 = 0 ∧ (Mi (orI W (Nt (Mi m)) C (Nt (Mi th)) [xs.getD (0 + j.toNat) yy0.dflt])).length = (Mi (Nt (Mi th))).length ∧ some yy4 = some yy4 ∧ some (Row.data 80 yy5 (Mi th)) = some (Row.data 80 yy5 (Mi (Nt (Mi th)))) ∧ ((!!fitL (Nt (Mi m)) C (wordAt W yy2)) = true → (0 : Int) ≤ i ∧ i < yy6 ∧ 0 + i.toNat < xs.length ∧ SameK (KK n123 0) (KK n123 0) ∧ G 0 (stOf 42 [0, 1, 5, 6] [D.own 0 0 L.length none, D.fn 124 [D.rptr [D.rptr [D.sl false false yy0.sl W, D.sl false false (yy0.prod (Ty.bool.prod yy0.sl)) S, D.sl false false yy5 (Mi m), D.top]], D.rptr [D.sl false false yy0 C], D.ptr 1 0 0], D.v (Value.int IntKind.i64 (IntKind.i64.wrap (i + (1 : Int)))), D.v (Value.int IntKind.i64 (IntKind.i64.wrap (j + (1 : Int))))] [Slot.live (Row.data 3 yy0 (xs.set (0 + i.toNat) yy2)), Slot.live yy4, Slot.live yy1])) ∧ ((!!fitL (Nt (Mi m)) C (wordAt W yy2)) = false → SameK (KK n123 0) (KK n123 0) ∧ G 0 (stOf 42 [0, 1, 5, 6] [D.own 0 0 L.length none, D.fn 124 [D.rptr [D.rptr [D.sl false false yy0.sl W, D.sl false false (yy0.prod (Ty.bool.prod yy0.sl)) S, D.sl false false yy5 (Mi m), D.top]], D.rptr [D.sl false false yy0 C], D.ptr 1 0 0], D.v (Value.int IntKind.i64 i), D.v (Value.int IntKind.i64 (IntKind.i64.wrap (j + (1 : Int))))] [Slot.live (Row.data 3 yy0 xs), Slot.live yy4, Slot.live yy1]))) ∧ (decide (j < yy6) = false → (0 : Int) ≤ i ∧ i ≤ yy6 ∧ yy6 ≤ (↑(xs.length - 0) : Int) ∧ (0 : Int) ≤ (0 : Int) ∧ (0 : Int) ≤ i ∧ i ≤ (↑(yy3.length - 0) : Int) ∧ R (D.own 0 0 (i.toNat - 0) none, [some (Row.data 3 yy0 yy3), some yy4, some (Row.data 80 yy5 (Mi th))], []))
theorem e123 (W : List (List Int)) (S : List Slt) (m : List Nat) (C : List Int) (n : Nat) (L : List Int) (hn : C.length = n) (F : LookOk W m C L) (th0 : List Nat) (ht0 : th0.length = n) (hs0 : Smalls th0) (z : Nat) : ∀ (j i : Int) (xs : List Int) (th : List Nat), 0 ≤ j → j + z = L.length → xs.length = L.length → xs.drop j.toNat = L.drop j.toNat → xs.take i.toNat = keepI W m C (L.take j.toNat) → th = orI W m C th0 (L.take j.toNat) → i = ((keepI W m C (L.take j.toNat)).length : Int) → GetsK Try.prog Try.f123.results.toList [none] (KK n123) 3 (.own 0 0 (keepI W m C L).length none, [some (.data 3 (.int .i64) (keepI W m C L ++ List.replicate (L.length - (keepI W m C L).length) 0)), some (.box 66 [.own 2 0 n (some n)]), some (.data 80 (.int .u64) (Mi (orI W m C th0 L)))], []) 0 (stOf 42 [0,1,5,6] [.own 0 0 L.length none, .fn 124 [envD W S m, .rptr [slI C], .ptr 1 0 0], .v (.int .i64 i), .v (.int .i64 j)] [.live (.data 3 (.int .i64) xs), .live (.box 66 [.own 2 0 n (some n)]), .live (.data 80 (.int .u64) (Mi th))]) := by
  have hL := F.long
  have hsz := F.size
  induction z with
  | zero =>
    intro j i xs th j0 hj hxl hdr htk hth hi
    have e0 : L.take j.toNat = L := List.take_of_length_le (by omega)
    rw [e0] at htk hth hi
    have hkl := keepI_le W m C L
    have hin : i.toNat = (keepI W m C L).length := by omega
    have e : List.take i.toNat xs ++ List.replicate (L.length - i.toNat) 0 ++ List.drop (i.toNat + (L.length - i.toNat)) xs = keepI W m C L ++ List.replicate (L.length - (keepI W m C L).length) 0 := by
      rw [List.drop_eq_nil_of_le (by omega), List.append_nil, htk, hin]
    have el : (keepI W m C L ++ List.replicate (L.length - (keepI W m C L).length) 0).length = L.length := by
      rw [List.length_append, List.length_replicate]
      omega
    refine gets_vc spNa (fun k => [0,1,5,6]) (fun _ => []) 400 (.fork (.fork (.hd 0) (.hd 0)) .stop) (V := vq24 W S m C n L j i xs th) hmG (fun G R => by kernel_rfl) ?_
    unfold vq24
    try dsimp only
    simp only [take_len, List.drop_zero, List.take_length, Mi_getD, Mi_len, Nt_Mi, Int.toNat_natCast, Mi_set, Nat.zero_add, Nat.sub_zero, orI_len, orW_len, e, el, hxl]
    rw [hin, hth]
    simp (disch := omega) only [wrG, sameK_iff, true_and, and_true, decide_eq_true_eq, decide_eq_false_iff_not, ne_eq, not_false_eq_true, Bool.false_eq_true, Bool.true_eq_false, false_implies, true_implies, Ty.dflt, reduceCtorEq, beq_iff_eq, bne_iff_ne, beq_eq_false_iff_ne, bne_eq_false_iff_eq, Bool.not_eq_true, Bool.not_eq_eq_eq_not, Bool.not_true, Bool.not_false, gt_iff_lt, ge_iff_le, Int.not_lt, Int.not_le]
    repeat' (first | with_reducible refine And.intro ?_ ?_ | intro _)
    all_goals first | rfl | omega | assumption | trivial | exact room3 (by omega) | (exfalso; simp_all; done) | (exfalso; omega) | skip
  | succ z ih =>
    intro j i xs th j0 hj hxl hdr htk hth hi
    have hx0 := drop_at (xs := xs) (i := j) (0 : Int) j0 (by omega)
    have hl0 := drop_at (xs := L) (i := j) (0 : Int) j0 (by omega)
    rw [hdr, hl0] at hx0
    rw [List.cons.injEq] at hx0
    have ht := take_succ_at (0 : Int) L j0 (by omega)
    have hmem := F.mem _ (getD_in (d := 0) (k := j.toNat) (l := L) (by omega))
    obtain ⟨v, hv⟩ : ∃ v, L.getD j.toNat 0 = v := ⟨_, rfl⟩
    have hxv : xs.getD j.toNat 0 = v := by rw [← hx0.1, hv]
    rw [hv] at ht hmem
    have hkl := keepI_le W m C (L.take j.toNat)
    have htl : (L.take j.toNat).length = j.toNat := by rw [List.length_take]; omega
    rw [htl] at hkl
    have hlen : th.length = n := by rw [hth, orI_len]; exact ht0
    have hsm : Smalls th := by
      rw [hth]
      exact orI_small W m C _ th0 (fun x hx => (F.mem x (List.mem_of_mem_take hx)).2.2.2) hs0
    have c1 := d124 W S m C n th v hmem.1 hmem.2.1 hmem.2.2.1 hn (by omega) hmem.2.2.2 F.cells F.small hlen hsm
    have hj1 : IntKind.i64.wrap (j + 1) = j + 1 := wrG (by omega) (by omega)
    have hi1 : IntKind.i64.wrap (i + 1) = i + 1 := wrG (by omega) (by omega)
    rcases Bool.eq_false_or_eq_true (fitL m C (wordAt W v)) with h | h
    · have hk : keepI W m C (L.take (j + 1).toNat) = keepI W m C (L.take j.toNat) ++ [v] := by rw [ht, keepI_append, keepI_one, if_pos h]
      have hx := ih (j + 1) (i + 1) (xs.set i.toNat v) (orW 0 (wordAt W v) th) (by omega) (by omega) (by rw [List.length_set]; exact hxl)
        (by rw [drop_set_lt _ _ _ _ (by omega), hx0.2])
        (by rw [show (i + 1).toNat = i.toNat + 1 by omega, take_set_snoc _ _ _ (by omega), hk, htk])
        (by rw [ht, orI_append, ← hth, orI_one, if_pos h])
        (by rw [hk, List.length_append, List.length_cons, List.length_nil]; omega)
      rw [orI_one, if_pos h, h] at c1
      refine gets_vc spNa (fun k => [0,1,5,6]) (fun _ => []) 400 (.fork (.fork (.hd 0) (.hd 0)) .stop) (V := vq24 W S m C n L j i xs th) hmG (fun G R => by kernel_rfl) ?_
      unfold vq24
      try dsimp only
      simp only [Ty.dflt, hj1, hi1, take_len, List.drop_zero, List.take_length, Mi_getD, Mi_len, Nt_Mi, Int.toNat_natCast, Mi_set, Nat.zero_add, Nat.sub_zero, orI_len, orW_len, hxv, h, orI_one, if_true, Bool.not_true, Bool.not_false]
      simp (disch := omega) only [wrG, sameK_iff, true_and, and_true, decide_eq_true_eq, decide_eq_false_iff_not, ne_eq, not_false_eq_true, Bool.false_eq_true, Bool.true_eq_false, false_implies, true_implies, Ty.dflt, reduceCtorEq, beq_iff_eq, bne_iff_ne, beq_eq_false_iff_ne, bne_eq_false_iff_eq, Bool.not_eq_true, Bool.not_eq_eq_eq_not, Bool.not_true, Bool.not_false, gt_iff_lt, ge_iff_le, Int.not_lt, Int.not_le]
      repeat' (first | with_reducible refine And.intro ?_ ?_ | intro _)
      all_goals first | rfl | omega | assumption | trivial | exact room3 (by omega) | (exfalso; simp_all; done) | (exfalso; omega) | skip
    · have hk : keepI W m C (L.take (j + 1).toNat) = keepI W m C (L.take j.toNat) := by rw [ht, keepI_append, keepI_one, if_neg (by rw [h]; exact Bool.false_ne_true), List.append_nil]
      have hx := ih (j + 1) i xs th (by omega) (by omega) hxl hx0.2.symm (by rw [hk]; exact htk) (by rw [ht, orI_append, ← hth, orI_one, if_neg (by rw [h]; exact Bool.false_ne_true)]) (by rw [hk]; exact hi)
      rw [orI_one, if_neg (by rw [h]; exact Bool.false_ne_true), h] at c1
      refine gets_vc spNa (fun k => [0,1,5,6]) (fun _ => []) 400 (.fork (.fork (.hd 0) (.hd 0)) .stop) (V := vq24 W S m C n L j i xs th) hmG (fun G R => by kernel_rfl) ?_
      unfold vq24
      try dsimp only
      simp only [Ty.dflt, hj1, hi1, take_len, List.drop_zero, List.take_length, Mi_getD, Mi_len, Nt_Mi, Int.toNat_natCast, Mi_set, Nat.zero_add, Nat.sub_zero, orI_len, orW_len, hxv, h, orI_one, Bool.false_eq_true, if_false, Bool.not_true, Bool.not_false]
      simp (disch := omega) only [wrG, sameK_iff, true_and, and_true, decide_eq_true_eq, decide_eq_false_iff_not, ne_eq, not_false_eq_true, Bool.false_eq_true, Bool.true_eq_false, false_implies, true_implies, Ty.dflt, reduceCtorEq, beq_iff_eq, bne_iff_ne, beq_eq_false_iff_ne, bne_eq_false_iff_eq, Bool.not_eq_true, Bool.not_eq_eq_eq_not, Bool.not_true, Bool.not_false, gt_iff_lt, ge_iff_le, Int.not_lt, Int.not_le]
      repeat' (first | with_reducible refine And.intro ?_ ?_ | intro _)
      all_goals first | rfl | omega | assumption | trivial | exact room3 (by omega) | (exfalso; simp_all; done) | (exfalso; omega) | skip
theorem d123 (W : List (List Int)) (S : List Slt) (m : List Nat) (C : List Int) (n : Nat) (L : List Int) (th : List Nat) (hn : C.length = n) (F : LookOk W m C L) (hth : th.length = n) (hts : Smalls th) : Con Try.prog 123 [.data 3 (.int .i64) L, .box 66 [.own 2 0 n (some n)], .data 80 (.int .u64) (Mi th)] [.own 0 0 L.length none, .fn 124 [envD W S m, .rptr [slI C], .ptr 1 0 0]] (.own 0 0 (keepI W m C L).length none) [some (.data 3 (.int .i64) (keepI W m C L ++ List.replicate (L.length - (keepI W m C L).length) 0)), some (.box 66 [.own 2 0 n (some n)]), some (.data 80 (.int .u64) (Mi (orI W m C th L)))] [] := by
  refine con_vc (how := [none]) (c := n123) (K := (KK n123)) spNa (fun k => [0,1,5,6]) (fun _ => []) 400 (.fork .stop (.hd 0)) (V := fun G R => let yy0 := (List.take L.length (List.drop 0 L)); let yy1 := (Ty.int IntKind.i64); let yy2 := (Ty.int IntKind.u64); let yy3 := (Row.box 66 [D.own 2 0 n (some n)]); Con Try.prog 128 [Row.box 66 [D.own 1 0 n (some n)], Row.data 80 yy2 (Mi (Nt (Mi th)))] [D.sl false false yy1 yy0, D.fn 124 [D.rptr [D.rptr [D.sl false false yy1.sl W, D.sl false false (yy1.prod (Ty.bool.prod yy1.sl)) S, D.sl false false yy2 (Mi (Nt (Mi m))), D.top]], D.rptr [D.sl false false yy1 C], D.ptr 0 0 0]] (D.v (Value.int IntKind.i64 (findI (fun i => !fitL (Nt (Mi m)) C (wordAt W i)) (0 : Int) yy0))) [some (Row.box 66 [D.own 1 0 n (some n)]), some (Row.data 80 yy2 (Mi (orI W (Nt (Mi m)) C (Nt (Mi th)) (List.takeWhile (fun i => fitL (Nt (Mi m)) C (wordAt W i)) yy0))))] [] ∧ List.take L.length (List.drop 0 L) = List.take L.length (List.drop 0 L) ∧ W = W ∧ S = S ∧ Mi m = Mi (Nt (Mi m)) ∧ C = C ∧ 1 = 1 ∧ 0 = 0 ∧ 0 = 0 ∧ (Mi (orI W (Nt (Mi m)) C (Nt (Mi th)) (List.takeWhile (fun i => fitL (Nt (Mi m)) C (wordAt W i)) yy0))).length = (Mi (Nt (Mi th))).length ∧ some yy3 = some yy3 ∧ some (Row.data 80 yy2 (Mi th)) = some (Row.data 80 yy2 (Mi (Nt (Mi th)))) ∧ ((findI (fun i => !fitL (Nt (Mi m)) C (wordAt W i)) (0 : Int) yy0 == (-1 : Int)) = true → R (D.own 0 0 L.length none, [some (Row.data 3 yy1 L), some yy3, some (Row.data 80 yy2 (Mi (orI W (Nt (Mi m)) C (Nt (Mi th)) (List.takeWhile (fun i => fitL (Nt (Mi m)) C (wordAt W i)) yy0))))], [])) ∧ ((findI (fun i => !fitL (Nt (Mi m)) C (wordAt W i)) (0 : Int) yy0 == (-1 : Int)) = false → SameK (KK n123 0) (KK n123 0) ∧ G 0 (stOf 42 [0, 1, 5, 6] [D.own 0 0 L.length none, D.fn 124 [D.rptr [D.rptr [D.sl false false yy1.sl W, D.sl false false (yy1.prod (Ty.bool.prod yy1.sl)) S, D.sl false false yy2 (Mi m), D.top]], D.rptr [D.sl false false yy1 C], D.ptr 1 0 0], D.v (Value.int IntKind.i64 (findI (fun i => !fitL (Nt (Mi m)) C (wordAt W i)) (0 : Int) yy0)), D.v (Value.int IntKind.i64 (IntKind.i64.wrap (findI (fun i => !fitL (Nt (Mi m)) C (wordAt W i)) (0 : Int) yy0 + (1 : Int))))] [Slot.live (Row.data 3 yy1 L), Slot.live yy3, Slot.live (Row.data 80 yy2 (Mi (orI W (Nt (Mi m)) C (Nt (Mi th)) (List.takeWhile (fun i => fitL (Nt (Mi m)) C (wordAt W i)) yy0))))]))) hmG Try.func123 (by kernel_rfl) (by kernel_rfl) (fun G R => by kernel_rfl) ?_
  try dsimp only
  try dsimp only
  have hL := F.long
  have c1 := d128t W S m C n L th hn F hth hts
  simp only [take_len, List.drop_zero, List.take_length, Mi_getD, Mi_len, Nt_Mi, Int.toNat_natCast, Mi_set, Nat.zero_add, Nat.sub_zero, orI_len, orW_len]
  rcases find_facts (fun i => !fitL m C (wordAt W i)) L 0 (by omega) with ⟨h1, h2⟩ | ⟨r, h1, h2, h3, h4⟩
  · have hall : ∀ x ∈ L, fitL m C (wordAt W x) = true := fun x hx => by simpa using h2 x hx
    rw [takeWhile_all _ L hall] at c1 ⊢
    rw [h1] at c1 ⊢
    rw [keepI_all hall, Nat.sub_self, List.replicate_zero, List.append_nil]
    simp (disch := omega) only [wrG, sameK_iff, true_and, and_true, decide_eq_true_eq, decide_eq_false_iff_not, ne_eq, not_false_eq_true, Bool.false_eq_true, Bool.true_eq_false, false_implies, true_implies, Ty.dflt, reduceCtorEq, beq_iff_eq, bne_iff_ne, beq_eq_false_iff_ne, bne_eq_false_iff_eq, Bool.not_eq_true, Bool.not_eq_eq_eq_not, Bool.not_true, Bool.not_false, gt_iff_lt, ge_iff_le, Int.not_lt, Int.not_le]
    repeat' (first | with_reducible refine And.intro ?_ ?_ | intro _)
    all_goals first | rfl | omega | assumption | trivial | exact room3 (by omega) | (exfalso; simp_all; done) | (exfalso; omega) | skip
  · have h5 : fitL m C (wordAt W (L.getD r 0)) = false := by simpa using h3
    have hall : ∀ x ∈ L.take r, fitL m C (wordAt W x) = true := fun x hx => by simpa using h4 x hx
    rw [takeWhile_at _ 0 L r h2 h5 hall] at c1 ⊢
    rw [h1, Int.zero_add] at c1 ⊢
    have hr1 : IntKind.i64.wrap ((r : Int) + 1) = (r : Int) + 1 := wrG (by omega) (by omega)
    have ht := take_succ_at (0 : Int) L (i := (r : Int)) (by omega) (by omega)
    rw [Int.toNat_natCast] at ht
    have hk : keepI W m C (L.take ((r : Int) + 1).toNat) = L.take r := by rw [ht, keepI_append, keepI_one, if_neg (by rw [h5]; exact Bool.false_ne_true), List.append_nil, keepI_all hall]
    have hx := e123 W S m C n L hn F th hth hts (L.length - (r + 1)) ((r : Int) + 1) r L (orI W m C th (L.take r)) (by omega) (by omega) rfl rfl (by rw [hk, Int.toNat_natCast]) (by rw [ht, orI_append, orI_one, if_neg (by rw [h5]; exact Bool.false_ne_true)]) (by rw [hk, List.length_take]; omega)
    rw [hr1]
    have hne : ((r : Int) == -1) = false := by rw [beq_eq_false_iff_ne]; omega
    rw [hne]
    simp (disch := omega) only [wrG, sameK_iff, true_and, and_true, decide_eq_true_eq, decide_eq_false_iff_not, ne_eq, not_false_eq_true, Bool.false_eq_true, Bool.true_eq_false, false_implies, true_implies, Ty.dflt, reduceCtorEq, beq_iff_eq, bne_iff_ne, beq_eq_false_iff_ne, bne_eq_false_iff_eq, Bool.not_eq_true, Bool.not_eq_eq_eq_not, Bool.not_true, Bool.not_false, gt_iff_lt, ge_iff_le, Int.not_lt, Int.not_le]
    repeat' (first | with_reducible refine And.intro ?_ ?_ | intro _)
    all_goals first | rfl | omega | assumption | trivial | exact room3 (by omega) | (exfalso; simp_all; done) | (exfalso; omega) | skip
theorem d98 (s : Int) (n k : Nat) (wt : List Bool) (td : List Int) (hn : wt.length = n) (hk : td.length = k) (hs : s < n) (hkk : k ≤ 1000) : Con Try.prog 98 [.box 32 [.own 1 0 n (some n)], .data 4 .bool wt, .box 46 [.own 3 0 k none], .data 3 (.int .i64) td] [.v (.int .i64 s), .ptr 0 0 0, .ptr 2 0 0] (.tup []) [some (.box 32 [.own 1 0 n (some n)]), some (.data 4 .bool (putF wt td s).1), some (.box 46 [.own 4 0 (putF wt td s).2.length none]), none] [.data 3 (.int .i64) (putF wt td s).2] := by
  refine con_vc (how := []) (c := n98) (K := (KK n98)) spNa (fun _ => []) (fun k => [⟨1000000002, 3, .int .i64⟩]) 400 (.fork (.fork .stop .stop) (.f .stop)) (V := fun G R => (decide (s ≥ (0 : Int)) = true → (0 : Int) ≤ s ∧ s < (↑n : Int) ∧ 0 + s.toNat < wt.length ∧ ((!wt.getD (0 + s.toNat) Ty.bool.dflt) = true → (0 : Int) ≤ s ∧ s < (↑n : Int) ∧ 0 + s.toNat < wt.length ∧ roomy Try.prog 3 (k + 1) ∧ R (D.tup [], [some (Row.box 32 [D.own 1 0 n (some n)]), some (Row.data 4 Ty.bool (wt.set (0 + s.toNat) true)), some (Row.box 46 [D.own 4 0 (k + 1) none]), none], [Row.data 3 (Ty.int IntKind.i64) (List.take (k + 1) (List.drop 0 (List.take k (List.drop 0 td) ++ List.take 1 (List.drop 0 [s]))))])) ∧ ((!wt.getD (0 + s.toNat) Ty.bool.dflt) = false → R (D.tup [], [some (Row.box 32 [D.own 1 0 n (some n)]), some (Row.data 4 Ty.bool wt), some (Row.box 46 [D.own 4 0 k none]), none], [Row.data 3 (Ty.int IntKind.i64) (List.take k (List.drop 0 td))]))) ∧ (decide (s ≥ (0 : Int)) = false → false = false ∧ R (D.tup [], [some (Row.box 32 [D.own 1 0 n (some n)]), some (Row.data 4 Ty.bool wt), some (Row.box 46 [D.own 4 0 k none]), none], [Row.data 3 (Ty.int IntKind.i64) (List.take k (List.drop 0 td))]))) hmG Try.func98 (by kernel_rfl) (by kernel_rfl) (fun G R => by kernel_rfl) ?_
  try dsimp only
  simp only [Ty.dflt, Nat.zero_add, ← hk, List.drop_zero, List.take_length, take_one, takeSn]
  by_cases h0 : 0 ≤ s
  · cases hs : wt.getD s.toNat false
    · have e : putF wt td s = (wt.set s.toNat true, td ++ [s]) := if_pos ⟨h0, hs⟩
      rw [e]
      simp only [List.length_append, List.length_cons, List.length_nil, Nat.zero_add]
      simp (disch := omega) only [wrG, sameK_iff, true_and, and_true, decide_eq_true_eq, decide_eq_false_iff_not, ne_eq, not_false_eq_true, Bool.false_eq_true, Bool.true_eq_false, false_implies, true_implies, Ty.dflt, reduceCtorEq, beq_iff_eq, bne_iff_ne, beq_eq_false_iff_ne, bne_eq_false_iff_eq, Bool.not_eq_true, Bool.not_eq_eq_eq_not, Bool.not_true, Bool.not_false, gt_iff_lt, ge_iff_le, Int.not_lt, Int.not_le]
      repeat' (first | with_reducible refine And.intro ?_ ?_ | intro _)
      all_goals first | rfl | omega | assumption | trivial | exact room3 (by omega) | (exfalso; simp_all; done) | (exfalso; omega) | skip
    · have e : putF wt td s = (wt, td) := if_neg (fun h => by rw [hs] at h; exact absurd h.2 (by simp))
      rw [e]
      simp (disch := omega) only [wrG, sameK_iff, true_and, and_true, decide_eq_true_eq, decide_eq_false_iff_not, ne_eq, not_false_eq_true, Bool.false_eq_true, Bool.true_eq_false, false_implies, true_implies, Ty.dflt, reduceCtorEq, beq_iff_eq, bne_iff_ne, beq_eq_false_iff_ne, bne_eq_false_iff_eq, Bool.not_eq_true, Bool.not_eq_eq_eq_not, Bool.not_true, Bool.not_false, gt_iff_lt, ge_iff_le, Int.not_lt, Int.not_le]
      repeat' (first | with_reducible refine And.intro ?_ ?_ | intro _)
      all_goals first | rfl | omega | assumption | trivial | exact room3 (by omega) | (exfalso; simp_all; done) | (exfalso; omega) | skip
  · have e : putF wt td s = (wt, td) := if_neg (fun h => h0 h.1)
    rw [e]
    simp (disch := omega) only [wrG, sameK_iff, true_and, and_true, decide_eq_true_eq, decide_eq_false_iff_not, ne_eq, not_false_eq_true, Bool.false_eq_true, Bool.true_eq_false, false_implies, true_implies, Ty.dflt, reduceCtorEq, beq_iff_eq, bne_iff_ne, beq_eq_false_iff_ne, bne_eq_false_iff_eq, Bool.not_eq_true, Bool.not_eq_eq_eq_not, Bool.not_true, Bool.not_false, gt_iff_lt, ge_iff_le, Int.not_lt, Int.not_le]
    repeat' (first | with_reducible refine And.intro ?_ ?_ | intro _)
    all_goals first | rfl | omega | assumption | trivial | exact room3 (by omega) | (exfalso; simp_all; done) | (exfalso; omega) | skip
end Go.Proofs.YtnakmganodkliaaAm
namespace Go.Proofs.YtnakmganodkliaaAm
open Go
theorem wrap_and {a b : Nat} (ha : a < W64) (hb : b < W64) : IntKind.u64.wrap (((BitVec.ofInt 64 (a : Int) &&& BitVec.ofInt 64 (b : Int)).toNat : Nat) : Int) = ((a &&& b : Nat) : Int) := by
  rw [andU ha hb]
  exact wrU' (and_lt ha)
theorem takeL {α : Type} (a b : List α) : (a ++ b).take a.length = a := by simp
theorem rep_small (n : Nat) : Smalls (List.replicate n 0) := by
  intro x hx
  rw [(List.mem_replicate.1 hx).2]
  decide
theorem cast_beq (a b : Nat) : ((a : Int) == (b : Int)) = (a == b) := by
  apply Bool.eq_iff_iff.2
  simp only [beq_iff_eq]
  omega
theorem may_snoc (W : List (List Int)) (S : List Slt) (s : Slt) : mayF W (S ++ [s]) = mayF W S ++ [idxF (fun w => w.length == s.2.2.length) 0 W] := by simp [mayF]
theorem may_len (W : List (List Int)) (S : List Slt) : (mayF W S).length = S.length := by simp [mayF]
end Go.Proofs.YtnakmganodkliaaAm
namespace Go.Proofs.YtnakmganodkliaaAm
open Go
theorem word_at {P V : List (List Int)} {v : List Int} : wordAt (P ++ v :: V) (P.length : Int) = v := by
  unfold wordAt
  rw [Int.toNat_natCast, List.getD_eq_getElem?_getD, List.getElem?_append_right (Nat.le_refl _)]
  simp
theorem idx_filter_gen (f g : List Int → Bool) : ∀ (V P : List (List Int)), (idxF f (P.length : Int) V).filter (fun x => g (wordAt (P ++ V) x)) = idxF (fun w => f w && g w) (P.length : Int) V
  | [], _ => rfl
  | v :: V, P => by
    have ih := idx_filter_gen f g V (P ++ [v])
    rw [List.length_append, List.length_cons, List.length_nil, List.append_assoc, List.singleton_append] at ih
    have e : (((P.length + (0 + 1) : Nat)) : Int) = (P.length : Int) + 1 := by omega
    rw [e] at ih
    simp only [idxF]
    rcases Bool.eq_false_or_eq_true (f v) with hf | hf
    · rcases Bool.eq_false_or_eq_true (g v) with hg | hg
      · simp only [hf, hg, if_true, List.filter_cons, word_at, Bool.true_and, ih]
      · simp only [hf, hg, if_true, List.filter_cons, word_at, Bool.true_and, Bool.false_eq_true, if_false, ih]
    · simp only [hf, Bool.false_and, Bool.false_eq_true, if_false, ih]
theorem idx_filter (f g : List Int → Bool) (W : List (List Int)) : (idxF f 0 W).filter (fun x => g (wordAt W x)) = idxF (fun w => f w && g w) 0 W := idx_filter_gen f g W []
theorem idx_map_gen (f : List Int → Bool) : ∀ (V P : List (List Int)), (idxF f (P.length : Int) V).map (wordAt (P ++ V)) = V.filter f
  | [], _ => rfl
  | v :: V, P => by
    have ih := idx_map_gen f V (P ++ [v])
    rw [List.length_append, List.length_cons, List.length_nil, List.append_assoc, List.singleton_append] at ih
    have e : (((P.length + (0 + 1) : Nat)) : Int) = (P.length : Int) + 1 := by omega
    rw [e] at ih
    simp only [idxF, List.filter_cons]
    rcases Bool.eq_false_or_eq_true (f v) with hf | hf
    · simp only [hf, if_true, List.map_cons, word_at, ih]
    · simp only [hf, Bool.false_eq_true, if_false, ih]
theorem idx_map (f : List Int → Bool) (W : List (List Int)) : (idxF f 0 W).map (wordAt W) = W.filter f := idx_map_gen f W []
theorem idx_range (f : List Int → Bool) : ∀ (V : List (List Int)) (i : Int), ∀ x ∈ idxF f i V, i ≤ x ∧ x < i + V.length
  | [], _, x, h => by simp [idxF] at h
  | v :: V, i, x, h => by
    simp only [idxF] at h
    have ih := idx_range f V (i + 1)
    have e : ((v :: V).length : Int) = V.length + 1 := by simp
    split at h
    · rcases List.mem_cons.1 h with h | h
      · subst h; omega
      · have := ih x h; omega
    · have := ih x h; omega
theorem idx_word {f : List Int → Bool} {W : List (List Int)} {x : Int} (h : x ∈ idxF f 0 W) : 0 ≤ x ∧ x < W.length ∧ wordAt W x ∈ W ∧ f (wordAt W x) = true := by
  have h1 := idx_range f W 0 x h
  have h2 : wordAt W x ∈ W.filter f := by rw [← idx_map]; exact List.mem_map_of_mem h
  rw [List.mem_filter] at h2
  exact ⟨h1.1, by omega, h2.1, h2.2⟩
theorem keep_idx {W : List (List Int)} {m : List Nat} {C : List Int} {f : List Int → Bool} (h : ∀ w, fitL m C w = true → f w = true) : keepI W m C (idxF f 0 W) = idxF (fitL m C) 0 W := by
  unfold keepI
  rw [idx_filter f (fitL m C)]
  refine idx_same fun w _ => ?_
  cases hw : fitL m C w with
  | false => simp
  | true => rw [h w hw]; rfl
theorem orW_get : ∀ (w : List Int) (k : Nat) (th : List Nat) (j : Nat), j < th.length → (orW k w th).getD j 0 = if k ≤ j ∧ j - k < w.length then th.getD j 0 ||| bitN (w.getD (j - k) 0) else th.getD j 0
  | [], k, th, j, h => by simp [orW]
  | c :: w, k, th, j, h => by
    simp only [orW]
    rw [orW_get w (k + 1) _ j (by simpa using h)]
    by_cases e : k = j
    · subst e
      rw [if_neg (by omega), if_pos (by simp), getD_set_nat, if_pos ⟨rfl, h⟩]
      simp
    · have hs : (th.set k (th.getD k 0 ||| bitN c)).getD j 0 = th.getD j 0 := by rw [getD_set_nat, if_neg (fun q => e q.1)]
      rw [hs]
      by_cases e2 : k + 1 ≤ j ∧ j - (k + 1) < w.length
      · rw [if_pos e2, if_pos (by simp; omega)]
        rw [show j - k = (j - (k + 1)) + 1 by omega, List.getD_cons_succ]
      · rw [if_neg e2, if_neg (by simp; omega)]
theorem orI_get (W : List (List Int)) (m : List Nat) (C : List Int) (j : Nat) (hj : j < C.length) : ∀ (l : List Int) (th : List Nat), j < th.length → (∀ x ∈ l, (wordAt W x).length = C.length ∧ ∀ c ∈ wordAt W x, 0 ≤ c ∧ c < 64) → (orI W m C th l).getD j 0 = ofA (th.getD j 0) ((keepI W m C l).map fun x => (wordAt W x).getD j 0)
  | [], th, _, _ => rfl
  | x :: l, th, ht, h => by
    have hx := h x List.mem_cons_self
    have hl := fun y hy => h y (List.mem_cons_of_mem x hy)
    rw [orI_cons, show x :: l = [x] ++ l from rfl, keepI_append, keepI_one]
    cases hf : fitL m C (wordAt W x) with
    | false => simpa using orI_get W m C j hj l th ht hl
    | true =>
      simp only [if_true, List.singleton_append, List.map_cons]
      rw [orI_get W m C j hj l _ (by rw [orW_len]; exact ht) hl, orW_get _ _ _ _ ht, if_pos ⟨by omega, by omega⟩]
      have hc := hx.2 ((wordAt W x).getD j 0) (getD_in (by omega))
      simp only [Nat.sub_zero, ofA]
      congr 1
      unfold bitN
      rw [if_neg (by omega)]
      first | rfl | (rw [if_pos (by omega)]) | (simp; omega)
theorem there_look {W : List (List Int)} {m : List Nat} {C : List Int} {f : List Int → Bool} (hW : ∀ w ∈ W, ∀ c ∈ w, 0 ≤ c ∧ c < 64) (h1 : ∀ w, fitL m C w = true → f w = true) (h2 : ∀ w, f w = true → w.length = C.length) {k : Nat} (hk : k < C.length) : (thereI W m C (idxF f 0 W)).getD k 0 = thereF W (fitL m C) k := by
  unfold thereI
  rw [orI_get W m C k hk _ _ (by simpa using hk) (fun x hx => ?_), keep_idx h1]
  · have e : (List.replicate C.length 0).getD k 0 = 0 := by
      rw [List.getD_eq_getElem?_getD, List.getElem?_replicate]
      split <;> rfl
    rw [e]
    unfold thereF ofN
    rw [← idx_map, List.map_map]
    rfl
  · obtain ⟨_, _, hw, hf⟩ := idx_word hx
    exact ⟨h2 _ hf, hW _ hw⟩
theorem meet_same {a b : Nat → Nat} : ∀ {cs : List Int} {k : Nat} {m : List Nat}, (∀ j, k ≤ j → j < k + cs.length → a j = b j) → meetL a k cs m = meetL b k cs m
  | [], _, _, _ => rfl
  | c :: cs, k, m, h => by
    simp only [meetL]
    rw [h k (Nat.le_refl _) (by simp), meet_same fun j h1 h2 => h j (by omega) (by simp; omega)]
theorem look_same {W : List (List Int)} {m : List Nat} {s : Slt} {f : List Int → Bool} (hW : ∀ w ∈ W, ∀ c ∈ w, 0 ≤ c ∧ c < 64) (h1 : ∀ w, fitL m s.2.2 w = true → f w = true) (h2 : ∀ w, f w = true → w.length = s.2.2.length) : lookC W m s.2.2 (idxF f 0 W) = lookF W m s := by
  unfold lookC lookF
  exact meet_same fun j _ hj => there_look hW h1 h2 (by omega)
theorem lost_sub (th : List Nat) : ∀ (cs : List Int) (k : Nat) (m : List Nat), ∀ x ∈ lostL th k cs m, x ∈ cs
  | [], _, _, x, h => by simp [lostL] at h
  | c :: cs, k, m, x, h => by
    simp only [lostL] at h
    split at h
    · exact List.mem_cons_of_mem _ (lost_sub th cs _ _ x h)
    · rcases List.mem_cons.1 h with h | h
      · rw [h]; exact List.mem_cons_self
      · exact List.mem_cons_of_mem _ (lost_sub th cs _ _ x h)
theorem lost_mem (th : List Nat) : ∀ (cs : List Int) (k : Nat) (m : List Nat) (j : Nat), (meetL (fun k => th.getD k 0) k cs m).getD j 0 ≠ m.getD j 0 → ∃ x ∈ lostL th k cs m, x.toNat = j
  | [], _, _, j, h => absurd rfl h
  | c :: cs, k, m, j, h => by
    simp only [meetL, lostL] at h ⊢
    by_cases e : m.getD c.toNat 0 &&& th.getD k 0 = m.getD c.toNat 0
    · rw [if_pos e]
      rw [e, set_same 0] at h
      exact lost_mem th cs (k + 1) m j h
    · rw [if_neg e]
      by_cases hj : c.toNat = j
      · exact ⟨c, List.mem_cons_self, hj⟩
      · have e2 : (m.set c.toNat (m.getD c.toNat 0 &&& th.getD k 0)).getD j 0 = m.getD j 0 := by
          rw [getD_set_nat, if_neg (fun q => hj q.1)]
        rw [← e2] at h
        obtain ⟨x, hx, hxj⟩ := lost_mem th cs (k + 1) _ j h
        exact ⟨x, List.mem_cons_of_mem _ hx, hxj⟩
theorem sum_le {a b : List Nat} (hl : a.length = b.length) (h : ∀ c, a.getD c 0 ≤ b.getD c 0) : a.sum ≤ b.sum := by
  by_cases e : a = b
  · rw [e]; exact Nat.le_refl _
  · exact Nat.le_of_lt (sum_lt hl h e)
theorem meet_le (th : Nat → Nat) (cs : List Int) (k : Nat) (m : List Nat) (c : Nat) : (meetL th k cs m).getD c 0 ≤ m.getD c 0 := sub_le fun i hi => ((meet_bits th cs k m c i).1 hi).1
theorem lost_sum (th : List Nat) : ∀ (cs : List Int) (k : Nat) (m : List Nat), (∀ c ∈ cs, c.toNat < m.length) → lostL th k cs m ≠ [] → (meetL (fun k => th.getD k 0) k cs m).sum < m.sum
  | [], _, _, _, h => absurd rfl h
  | c :: cs, k, m, hc, h => by
    simp only [meetL, lostL] at h ⊢
    by_cases e : m.getD c.toNat 0 &&& th.getD k 0 = m.getD c.toNat 0
    · rw [if_pos e] at h
      rw [e, set_same 0]
      exact lost_sum th cs (k + 1) m (fun x hx => hc x (List.mem_cons_of_mem _ hx)) h
    · have h1 : (meetL (fun k => th.getD k 0) (k + 1) cs (m.set c.toNat (m.getD c.toNat 0 &&& th.getD k 0))).sum ≤ (m.set c.toNat (m.getD c.toNat 0 &&& th.getD k 0)).sum := sum_le (meet_len _ _ _ _) (meet_le _ _ _ _)
      have h2 : (m.set c.toNat (m.getD c.toNat 0 &&& th.getD k 0)).sum < m.sum := by
        refine sum_lt (by simp) (fun j => ?_) (fun q => e ?_)
        · rw [getD_set_nat]
          split
          · rename_i q; rw [← q.1]; exact Nat.and_le_left
          · exact Nat.le_refl _
        · have := congrArg (fun l => l.getD c.toNat 0) q
          rw [getD_set_nat, if_pos ⟨rfl, hc c List.mem_cons_self⟩] at this
          exact this
      omega
theorem lost_nil (th : List Nat) (cs : List Int) (k : Nat) (m : List Nat) (h : lostL th k cs m = []) : meetL (fun k => th.getD k 0) k cs m = m := by
  refine list_ext_getD 0 (meet_len _ _ _ _) fun j hj => ?_
  by_cases e : (meetL (fun k => th.getD k 0) k cs m).getD j 0 = m.getD j 0
  · exact e
  · obtain ⟨x, hx, _⟩ := lost_mem th cs k m j e
    rw [h] at hx
    simp at hx
def cntT : List Bool → Nat
  | [] => 0
  | b :: l => (if b then 1 else 0) + cntT l
theorem cnt_le : ∀ (l : List Bool), cntT l ≤ l.length
  | [] => Nat.le_refl _
  | b :: l => by simp only [cntT, List.length_cons]; have := cnt_le l; split <;> omega
theorem cnt_set : ∀ (l : List Bool) (i : Nat) (b : Bool), i < l.length → cntT (l.set i b) + (if l.getD i false then 1 else 0) = cntT l + (if b then 1 else 0)
  | [], i, b, h => by simp at h
  | a :: l, 0, b, _ => by simp only [List.set_cons_zero, cntT, List.getD_cons_zero]; omega
  | a :: l, i + 1, b, h => by
    simp only [List.set_cons_succ, cntT, List.getD_cons_succ]
    have := cnt_set l i b (by simpa using h)
    omega
structure Queue (wt : List Bool) (td : List Int) (N : Nat) : Prop where
  len : wt.length = N
  nodup : td.Nodup
  mem : ∀ s ∈ td, 0 ≤ s ∧ s < N ∧ wt.getD s.toNat false = true
  all : ∀ j, wt.getD j false = true → (j : Int) ∈ td
  cnt : td.length = cntT wt
theorem Queue.long {wt : List Bool} {td : List Int} {N : Nat} (q : Queue wt td N) : td.length ≤ N := by
  rw [q.cnt, ← q.len]
  exact cnt_le wt
theorem getD_set_bool (l : List Bool) (c : Nat) (v : Bool) (d : Nat) : (l.set c v).getD d false = if c = d ∧ c < l.length then v else l.getD d false := getD_set_gen false l c v d
theorem put_queue {wt : List Bool} {td : List Int} {N : Nat} {s : Int} (q : Queue wt td N) (hs : s < N) : Queue (putF wt td s).1 (putF wt td s).2 N ∧ (∀ j, wt.getD j false = true → (putF wt td s).1.getD j false = true) ∧ (0 ≤ s → (putF wt td s).1.getD s.toNat false = true) := by
  unfold putF
  by_cases h : 0 ≤ s ∧ wt.getD s.toNat false = false
  · rw [if_pos h]
    have hl : s.toNat < wt.length := by rw [q.len]; omega
    refine ⟨⟨by simp [q.len], ?_, ?_, ?_, ?_⟩, ?_, ?_⟩
    · rw [List.nodup_append]
      refine ⟨q.nodup, by simp, ?_⟩
      intro a ha b hb e
      rw [List.mem_singleton] at hb
      subst hb
      subst e
      have := (q.mem a ha).2.2
      rw [h.2] at this
      cases this
    · intro a ha
      rcases List.mem_append.1 ha with ha | ha
      · have := q.mem a ha
        refine ⟨this.1, this.2.1, ?_⟩
        rw [getD_set_bool]
        split
        · rfl
        · exact this.2.2
      · rw [List.mem_singleton] at ha
        subst ha
        exact ⟨h.1, hs, by rw [getD_set_bool, if_pos ⟨rfl, hl⟩]⟩
    · intro j hj
      rw [getD_set_bool] at hj
      rw [List.mem_append]
      split at hj
      · rename_i e
        right
        rw [List.mem_singleton]
        omega
      · exact .inl (q.all j hj)
    · show (td ++ [s]).length = cntT (wt.set s.toNat true)
      rw [List.length_append, List.length_cons, List.length_nil, q.cnt]
      have := cnt_set wt s.toNat true hl
      rw [h.2] at this
      simp only [Bool.false_eq_true, if_false, if_true] at this
      omega
    · intro j hj
      show (wt.set s.toNat true).getD j false = true
      rw [getD_set_bool]
      split
      · rfl
      · exact hj
    · intro _
      show (wt.set s.toNat true).getD s.toNat false = true
      rw [getD_set_bool, if_pos ⟨rfl, hl⟩]
  · rw [if_neg h]
    refine ⟨q, fun j hj => hj, fun h0 => ?_⟩
    show wt.getD s.toNat false = true
    cases e : wt.getD s.toNat false with
    | true => rfl
    | false => exact absurd ⟨h0, e⟩ h
theorem pop_queue {wt : List Bool} {td : List Int} {N : Nat} {s : Int} (q : Queue wt (s :: td) N) : Queue (wt.set s.toNat false) td N := by
  have hs := q.mem s List.mem_cons_self
  have hl : s.toNat < wt.length := by rw [q.len]; omega
  have hn := List.nodup_cons.1 q.nodup
  refine ⟨by simp [q.len], hn.2, ?_, ?_, ?_⟩
  · intro a ha
    have h1 := q.mem a (List.mem_cons_of_mem _ ha)
    refine ⟨h1.1, h1.2.1, ?_⟩
    rw [getD_set_bool, if_neg ?_]
    · exact h1.2.2
    · rintro ⟨e, _⟩
      have : s = a := by omega
      rw [this] at hn
      exact hn.1 ha
  · intro j hj
    rw [getD_set_bool] at hj
    split at hj
    · cases hj
    · rename_i e
      rcases List.mem_cons.1 (q.all j hj) with h | h
      · exact absurd ⟨by omega, hl⟩ e
      · exact h
  · have h1 := q.cnt
    have h2 := cnt_set wt s.toNat false hl
    rw [hs.2.2] at h2
    simp only [if_true, Bool.false_eq_true, if_false, List.length_cons] at h1 h2
    omega
def putsF (A D : List (Int × Int)) : List Int → List Bool × List Int → List Bool × List Int
  | [], q => q
  | c :: cs, q => putsF A D cs (putF (putF q.1 q.2 (A.getD c.toNat (-1, 0)).1).1 (putF q.1 q.2 (A.getD c.toNat (-1, 0)).1).2 (D.getD c.toNat (-1, 0)).1)
theorem puts_queue {A D : List (Int × Int)} {N : Nat} (hA : ∀ c : Nat, (A.getD c (-1, 0)).1 < N) (hD : ∀ c : Nat, (D.getD c (-1, 0)).1 < N) : ∀ (cs : List Int) (wt : List Bool) (td : List Int), Queue wt td N → Queue (putsF A D cs (wt, td)).1 (putsF A D cs (wt, td)).2 N ∧ (∀ j, wt.getD j false = true → (putsF A D cs (wt, td)).1.getD j false = true) ∧
    ∀ c ∈ cs, ∀ j : Nat, ((A.getD c.toNat (-1, 0)).1 = j ∨ (D.getD c.toNat (-1, 0)).1 = j) → (putsF A D cs (wt, td)).1.getD j false = true
  | [], wt, td, q => ⟨q, fun j h => h, fun c hc => by simp at hc⟩
  | c :: cs, wt, td, q => by
    obtain ⟨q1, g1, p1⟩ := put_queue q (hA c.toNat)
    obtain ⟨q2, g2, p2⟩ := put_queue q1 (hD c.toNat)
    obtain ⟨q3, g3, p3⟩ := puts_queue hA hD cs _ _ q2
    refine ⟨q3, fun j h => g3 j (g2 j (g1 j h)), fun x hx j hj => ?_⟩
    rcases List.mem_cons.1 hx with hx | hx
    · subst hx
      refine g3 j ?_
      rcases hj with hj | hj
      · refine g2 j ?_
        have := p1 (by rw [hj]; omega)
        rw [show ((A.getD x.toNat (-1, 0)).1).toNat = j by rw [hj]; exact Int.toNat_natCast j] at this
        exact this
      · have := p2 (by rw [hj]; omega)
        rw [show ((D.getD x.toNat (-1, 0)).1).toNat = j by rw [hj]; exact Int.toNat_natCast j] at this
        exact this
    · exact p3 x hx j hj
abbrev sAtN (S : List Slt) (j : Nat) : Slt := S.getD j (0, false, [])
structure Inv (W : List (List Int)) (S : List Slt) (m0 m : List Nat) (ms : List (List Int)) (wt : List Bool) (td : List Int) : Prop where
  len : m.length = m0.length
  lo : Leq (gfpF W S m0) m
  hi : Leq m m0
  may : ms.length = S.length
  ok : ∀ j, j < S.length → ∃ f : List Int → Bool, ms.getD j [] = idxF f 0 W ∧ (∀ w, fitL m (sAtN S j).2.2 w = true → f w = true) ∧ ∀ w, f w = true → w.length = (sAtN S j).2.2.length
  fine : ∀ j, j < S.length → wt.getD j false = false → Stable1 W m (sAtN S j) ∧ ms.getD j [] = idxF (fitL m (sAtN S j).2.2) 0 W
  q : Queue wt td S.length
theorem Inv.done {W : List (List Int)} {S : List Slt} {m0 m : List Nat} {ms : List (List Int)} {wt : List Bool} (I : Inv W S m0 m ms wt []) : m = gfpF W S m0 ∧ ms = wordsF W S m := by
  have hw : ∀ j, wt.getD j false = false := fun j => by
    cases e : wt.getD j false with
    | false => rfl
    | true => have := I.q.all j e; simp at this
  constructor
  · refine gfp_eq I.len (fun s hs => ?_) I.hi I.lo
    obtain ⟨j, hj, e⟩ := List.getElem_of_mem hs
    have := (I.fine j hj (hw j)).1
    rw [show sAtN S j = s by rw [← e]; simp [sAtN, List.getD_eq_getElem?_getD, hj]] at this
    exact this
  · refine list_ext_getD [] (by rw [I.may]; simp [wordsF]) fun j hj => ?_
    have hj' : j < S.length := by rw [← I.may]; exact hj
    rw [(I.fine j hj' (hw j)).2]
    unfold wordsF
    simp [List.getD_eq_getElem?_getD, hj', sAtN]
structure Board (W : List (List Int)) (S : List Slt) (n : Nat) (A D : List (Int × Int)) : Prop where
  letters : ∀ w ∈ W, ∀ c ∈ w, 0 ≤ c ∧ c < 64
  cells : ∀ j, j < S.length → ∀ c ∈ (sAtN S j).2.2, 0 ≤ c ∧ c < n
  once : ∀ j, j < S.length → OnceS (sAtN S j)
  seat : ∀ j, j < S.length → ∀ c ∈ (sAtN S j).2.2, (A.getD c.toNat (-1, 0)).1 = j ∨ (D.getD c.toNat (-1, 0)).1 = j
  inA : ∀ c : Nat, (A.getD c (-1, 0)).1 < S.length
  inD : ∀ c : Nat, (D.getD c (-1, 0)).1 < S.length
theorem Inv.step {W : List (List Int)} {S : List Slt} {m0 m : List Nat} {ms : List (List Int)} {wt : List Bool} {s : Int} {td : List Int} {A D : List (Int × Int)} (B : Board W S m0.length A D) (I : Inv W S m0 m ms wt (s :: td))
    {C l : List Int} (hC : (slotAt S s).2.2 = C) (hl : ms.getD s.toNat [] = l) :
    Inv W S m0 (lookC W m C l) (ms.set s.toNat (keepI W m C l)) (putsF A D (lostC W m C l) (wt.set s.toNat false, td)).1 (putsF A D (lostC W m C l) (wt.set s.toNat false, td)).2 ∧
    (lookC W m C l).sum * (S.length + 1) + (putsF A D (lostC W m C l) (wt.set s.toNat false, td)).2.length < m.sum * (S.length + 1) + (td.length + 1) := by
  have hs := I.q.mem s List.mem_cons_self
  have hj : s.toNat < S.length := by omega
  obtain ⟨f, hf, hf1, hf2⟩ := I.ok s.toNat hj
  have hsl : sAtN S s.toNat = slotAt S s := rfl
  have hlf : l = idxF f 0 W := by rw [← hl, hf]
  rw [hsl, hC] at hf1 hf2
  have hlook : lookC W m C l = lookF W m (slotAt S s) := by
    rw [hlf, ← hC]
    rw [← hC] at hf1 hf2
    exact look_same B.letters hf1 hf2
  have hkeep : keepI W m C l = idxF (fitL m C) 0 W := by rw [hlf]; exact keep_idx hf1
  have hon : OnceS (slotAt S s) := B.once s.toNat hj
  have q1 := pop_queue I.q
  obtain ⟨q2, g2, p2⟩ := puts_queue B.inA B.inD (lostC W m C l) _ _ q1
  have hleq : Leq (lookC W m C l) m := by rw [hlook]; exact look_leq W m _
  have hfit : ∀ w ∈ W, fitL (lookC W m C l) C w = fitL m C w := fun w hw => by
    rw [hlook]
    have := look_fit (m := m) hon hw
    rw [hC] at this
    exact this
  have hcells : ∀ c ∈ C, c.toNat < m.length := fun c hc => by
    have := B.cells s.toNat hj c (by rw [hsl, hC]; exact hc)
    rw [I.len]
    omega
  have hsame : ∀ j, j < S.length → (putsF A D (lostC W m C l) (wt.set s.toNat false, td)).1.getD j false = false → ∀ c ∈ (sAtN S j).2.2, m.getD c.toNat 0 = (lookC W m C l).getD c.toNat 0 := by
    intro j hj2 hw c hc
    by_cases e : (lookC W m C l).getD c.toNat 0 = m.getD c.toNat 0
    · exact e.symm
    · exfalso
      obtain ⟨x, hx, hxc⟩ := lost_mem (thereI W m C l) C 0 m c.toNat e
      have := p2 x hx j (by rw [hxc]; exact B.seat j hj2 c hc)
      rw [hw] at this
      cases this
  refine ⟨⟨?_, ?_, hleq.trans I.hi, by simp [I.may], ?_, ?_, q2⟩, ?_⟩
  · rw [hlook, look_len, I.len]
  · rw [hlook]
    refine look_below ?_ I.lo
    have := gfp_stable W S m0 (slotAt S s) (by
      unfold slotAt
      exact getD_in hj)
    exact this
  · intro j hj2
    by_cases e : s.toNat = j
    · subst e
      refine ⟨fitL m C, ?_, fun w hw => ?_, fun w hw => ?_⟩
      · rw [getD_set_gen, if_pos ⟨rfl, by rw [I.may]; exact hj⟩, hkeep]
      · rw [hsl, hC] at hw
        exact fit_mono hleq hw
      · rw [hsl, hC]
        exact ((fit_iff m C w).1 hw).1
    · obtain ⟨f', h1, h2, h3⟩ := I.ok j hj2
      refine ⟨f', ?_, fun w hw => h2 w (fit_mono hleq hw), h3⟩
      rw [getD_set_gen, if_neg (fun q => e q.1)]
      exact h1
  · intro j hj2 hw
    have hkept := hsame j hj2 hw
    by_cases e : s.toNat = j
    · subst e
      rw [getD_set_gen, if_pos ⟨rfl, by rw [I.may]; exact hj⟩, hkeep]
      constructor
      · rw [hlook]
        exact look_stable hon
      · rw [hsl, hC]
        exact (idx_same fun w hw => hfit w hw).symm
    · have hw0 : wt.getD j false = false := by
        cases e2 : wt.getD j false with
        | false => rfl
        | true =>
          have := g2 j (by rw [getD_set_bool, if_neg (fun q => e q.1)]; exact e2)
          rw [hw] at this
          cases this
      obtain ⟨h1, h2⟩ := I.fine j hj2 hw0
      rw [getD_set_gen, if_neg (fun q => e q.1)]
      refine ⟨stable_keep hkept h1, ?_⟩
      rw [h2]
      exact idx_same fun w _ => fit_keep hkept w
  · have hql := q2.long
    by_cases e : lostC W m C l = []
    · have e2 : lookC W m C l = m := lost_nil _ _ _ _ e
      rw [e, e2]
      show m.sum * (S.length + 1) + td.length < _
      omega
    · have e2 : (lookC W m C l).sum < m.sum := lost_sum _ _ _ _ hcells e
      have e3 : ((lookC W m C l).sum + 1) * (S.length + 1) ≤ m.sum * (S.length + 1) := Nat.mul_le_mul_right _ e2
      rw [Nat.add_mul] at e3
      omega
end Go.Proofs.YtnakmganodkliaaAm
set_option maxRecDepth 100000
namespace Go.Proofs.YtnakmganodkliaaAm
open Go
def vq25 (W : List (List Int)) (S : List Slt) (m : List Nat) (ms : List (List Int)) (C : List Int) (th : List Nat) (ns : List (List Int)) (k : Int) (mm : List Nat) (lo : List Int) (G : Nat → St → Prop) (R : D × List (Option Row) × List Row → Prop) : Prop := let yy0 := (Ty.int IntKind.i64); let yy1 := (↑(BitVec.ofInt 64 ((Mi mm).getD (0 + Int.toNat (C.getD k.toNat yy0.dflt)) (Ty.int IntKind.u64).dflt) &&& BitVec.ofInt 64 ((Mi th).getD (0 + k.toNat) (Ty.int IntKind.u64).dflt)).toNat : Int); let yy2 := (Row.box 119 [D.sl false false yy0.sl W, D.sl false false (yy0.prod (Ty.bool.prod yy0.sl)) S, D.own 1 0 m.length (some m.length), D.own 2 0 ms.length none]); let yy3 := (C.getD k.toNat yy0.dflt); let yy4 := (Ty.int IntKind.u64); let yy5 := (Row.nest (NK.mk 46 yy0.sl 0 3 yy0) ns none); let yy6 := (↑C.length : Int); (decide (k < yy6) = true → (0 : Int) ≤ k ∧ k < yy6 ∧ (0 : Int) ≤ C.getD k.toNat yy0.dflt ∧ C.getD k.toNat yy0.dflt < (↑m.length : Int) ∧ 0 + Int.toNat yy3 < (Mi mm).length ∧ (0 : Int) ≤ k ∧ k < yy6 ∧ 0 + k.toNat < (Mi th).length ∧ (0 : Int) ≤ C.getD k.toNat yy0.dflt ∧ C.getD k.toNat yy0.dflt < (↑m.length : Int) ∧ 0 + Int.toNat yy3 < (Mi mm).length ∧ ((IntKind.u64.wrap yy1 != (Mi mm).getD (0 + Int.toNat yy3) yy4.dflt) = true → (0 : Int) ≤ C.getD k.toNat yy0.dflt ∧ C.getD k.toNat yy0.dflt < (↑m.length : Int) ∧ 0 + Int.toNat yy3 < (Mi mm).length ∧ roomy Try.prog 3 (lo.length + 1) ∧ SameK (KK n99 0) (KK n99 0) ∧ G 0 (stOf 78 [2, 6, 7, 37, 38, 39] [D.ptr 3 0 0, D.ptr 4 0 0, D.own 5 0 (lo.length + 1) none, D.sl false false yy0 C, D.v (Value.int IntKind.i64 yy6), D.v (Value.int IntKind.i64 (IntKind.i64.wrap (k + (1 : Int))))] [Slot.live yy2, Slot.live (Row.data 80 yy4 ((Mi mm).set (0 + Int.toNat yy3) (IntKind.u64.wrap yy1))), Slot.live yy5, Slot.live (Row.box 116 [D.ptr 0 0 0]), Slot.live (Row.box 66 [D.own 6 0 C.length (some C.length)]), Slot.live (Row.data 3 yy0 (List.take lo.length (List.drop 0 lo) ++ List.take 1 (List.drop 0 [C.getD k.toNat yy0.dflt]))), Slot.live (Row.data 80 yy4 (Mi th))])) ∧ ((IntKind.u64.wrap yy1 != (Mi mm).getD (0 + Int.toNat yy3) yy4.dflt) = false → SameK (KK n99 0) (KK n99 0) ∧ G 0 (stOf 78 [2, 6, 7, 37, 38, 39] [D.ptr 3 0 0, D.ptr 4 0 0, D.own 5 0 lo.length none, D.sl false false yy0 C, D.v (Value.int IntKind.i64 yy6), D.v (Value.int IntKind.i64 (IntKind.i64.wrap (k + (1 : Int))))] [Slot.live yy2, Slot.live (Row.data 80 yy4 (Mi mm)), Slot.live yy5, Slot.live (Row.box 116 [D.ptr 0 0 0]), Slot.live (Row.box 66 [D.own 6 0 C.length (some C.length)]), Slot.live (Row.data 3 yy0 lo), Slot.live (Row.data 80 yy4 (Mi th))]))) ∧ (decide (k < yy6) = false → R (D.own 3 0 lo.length none, [some yy2, some (Row.data 80 yy4 (Mi mm)), some yy5], [Row.data 3 yy0 lo]))
theorem e99 (W : List (List Int)) (S : List Slt) (m : List Nat) (ms : List (List Int)) (s : Int) (C : List Int) (th : List Nat) (ns : List (List Int)) (hth : th.length = C.length) (hts : Smalls th) (hC : ∀ c ∈ C, 0 ≤ c ∧ c < m.length) (hn : C.length ≤ 300) (mE : List Nat) (loE : List Int) (z : Nat) : ∀ (k : Int) (mm : List Nat) (lo : List Int), 0 ≤ k → k + z = C.length → mm.length = m.length → Smalls mm → lo.length ≤ k → meetL (fun k => th.getD k 0) k.toNat (C.drop k.toNat) mm = mE → lo ++ lostL th k.toNat (C.drop k.toNat) mm = loE → GetsK Try.prog Try.f99.results.toList [none] (KK n99) 3 (.own 3 0 loE.length none, [some (.box 119 [slW W, slS S, .own 1 0 m.length (some m.length), .own 2 0 ms.length none]), some (.data 80 (.int .u64) (Mi mE)), some (.nest kW ns none)], [.data 3 (.int .i64) loE]) 0 (stOf 78 [2,6,7,37,38,39] [.ptr 3 0 0, .ptr 4 0 0, .own 5 0 lo.length none, slI C, .v (.int .i64 C.length), .v (.int .i64 k)] [.live (.box 119 [slW W, slS S, .own 1 0 m.length (some m.length), .own 2 0 ms.length none]), .live (.data 80 (.int .u64) (Mi mm)), .live (.nest kW ns none), .live (.box 116 [.ptr 0 0 0]), .live (.box 66 [.own 6 0 C.length (some C.length)]), .live (.data 3 (.int .i64) lo), .live (.data 80 (.int .u64) (Mi th))]) := by
  induction z with
  | zero =>
    intro k mm lo k0 hk hml hms hlo he hl
    rw [List.drop_eq_nil_of_le (by omega)] at he hl
    have he : mm = mE := he
    have hl : lo = loE := by simpa [lostL] using hl
    subst he; subst hl
    refine gets_vc (flag [2000033] spNa) (fun k => [2,6,7,37,38,39]) (fun k => if k = 0 then [⟨7, 3, .int .i64⟩] else [⟨4, 3, .int .i64⟩]) 400 (.fork (.fork (.hd 0) (.hd 0)) .stop) (V := vq25 W S m ms C th ns k mm lo) hmG (fun G R => by kernel_rfl) ?_
    unfold vq25
    try dsimp only
    simp (disch := omega) only [wrG, sameK_iff, true_and, and_true, decide_eq_true_eq, decide_eq_false_iff_not, ne_eq, not_false_eq_true, Bool.false_eq_true, Bool.true_eq_false, false_implies, true_implies, Ty.dflt, reduceCtorEq, beq_iff_eq, bne_iff_ne, beq_eq_false_iff_ne, bne_eq_false_iff_eq, Bool.not_eq_true, Bool.not_eq_eq_eq_not, Bool.not_true, Bool.not_false, gt_iff_lt, ge_iff_le, Int.not_lt, Int.not_le]
    repeat' (first | with_reducible refine And.intro ?_ ?_ | intro _)
    all_goals first | rfl | omega | assumption | trivial | exact room3 (by omega) | exact room46 (by omega) | (exfalso; simp_all; done) | (exfalso; omega) | skip
  | succ z ih =>
    intro k mm lo k0 hk hml hms hlo he hl
    have hd := drop_at (xs := C) (i := k) (0 : Int) k0 (by omega)
    rw [hd] at he hl
    simp only [meetL, lostL] at he hl
    have hc := hC _ (getD_in (d := 0) (k := k.toNat) (l := C) (by omega))
    obtain ⟨c, hcc⟩ : ∃ c, C.getD k.toNat 0 = c := ⟨_, rfl⟩
    rw [hcc] at he hl hc
    have hk1 : IntKind.i64.wrap (k + 1) = k + 1 := wrG (by omega) (by omega)
    have hw := wrap_and (hms.at c.toNat) (hts.at k.toNat)
    have e1 : (k + 1).toNat = k.toNat + 1 := by omega
    refine gets_vc (flag [2000033] spNa) (fun k => [2,6,7,37,38,39]) (fun k => if k = 0 then [⟨7, 3, .int .i64⟩] else [⟨4, 3, .int .i64⟩]) 400 (.fork (.fork (.hd 0) (.hd 0)) .stop) (V := vq25 W S m ms C th ns k mm lo) hmG (fun G R => by kernel_rfl) ?_
    unfold vq25
    try dsimp only
    simp only [Ty.dflt, hk1, hcc, take_len, List.drop_zero, List.take_length, Mi_getD, Mi_len, Nt_Mi, Int.toNat_natCast, Mi_set, Nat.zero_add, Nat.sub_zero, orI_len, take_one, takeSn, Mi_take, takeL, cast_beq, List.length_append, List.length_cons, List.length_nil, List.length_set, hw]
    by_cases h : mm.getD c.toNat 0 &&& th.getD k.toNat 0 = mm.getD c.toNat 0
    · rw [if_pos h] at hl
      have hset : mm.set c.toNat (mm.getD c.toNat 0 &&& th.getD k.toNat 0) = mm := by rw [h]; exact set_same 0 _ _
      rw [hset] at he
      have hx := ih (k + 1) mm lo (by omega) (by omega) hml hms (by omega) (by rw [e1] at he ⊢; exact he) (by rw [e1] at hl ⊢; exact hl)
      rw [h]
      simp (disch := omega) only [wrG, sameK_iff, true_and, and_true, decide_eq_true_eq, decide_eq_false_iff_not, ne_eq, not_false_eq_true, Bool.false_eq_true, Bool.true_eq_false, false_implies, true_implies, Ty.dflt, reduceCtorEq, beq_iff_eq, bne_iff_ne, beq_eq_false_iff_ne, bne_eq_false_iff_eq, Bool.not_eq_true, Bool.not_eq_eq_eq_not, Bool.not_true, Bool.not_false, gt_iff_lt, ge_iff_le, Int.not_lt, Int.not_le]
      repeat' (first | with_reducible refine And.intro ?_ ?_ | intro _)
      all_goals first | rfl | omega | assumption | trivial | exact room3 (by omega) | exact room46 (by omega) | (exfalso; simp_all; done) | (exfalso; omega) | skip
    · rw [if_neg h] at hl
      have hx := ih (k + 1) (mm.set c.toNat (mm.getD c.toNat 0 &&& th.getD k.toNat 0)) (lo ++ [c]) (by omega) (by omega) (by rw [List.length_set]; exact hml) (by
        intro y hy
        rcases List.mem_or_eq_of_mem_set hy with hy | hy
        · exact hms y hy
        · rw [hy]; exact and_lt (hms.at _)) (by rw [List.length_append, List.length_cons, List.length_nil]; omega) (by rw [e1] at he ⊢; exact he) (by rw [e1] at hl; rw [List.append_assoc, e1]; exact hl)
      rw [List.length_append, List.length_cons, List.length_nil] at hx
      have hne : ((((mm.getD c.toNat 0 &&& th.getD k.toNat 0 : Nat) : Int) != ((mm.getD c.toNat 0 : Nat) : Int))) = true := by
        rw [bne_iff_ne]
        omega
      rw [hne]
      simp (disch := omega) only [wrG, sameK_iff, true_and, and_true, decide_eq_true_eq, decide_eq_false_iff_not, ne_eq, not_false_eq_true, Bool.false_eq_true, Bool.true_eq_false, false_implies, true_implies, Ty.dflt, reduceCtorEq, beq_iff_eq, bne_iff_ne, beq_eq_false_iff_ne, bne_eq_false_iff_eq, Bool.not_eq_true, Bool.not_eq_eq_eq_not, Bool.not_true, Bool.not_false, gt_iff_lt, ge_iff_le, Int.not_lt, Int.not_le]
      repeat' (first | with_reducible refine And.intro ?_ ?_ | intro _)
      all_goals first | rfl | omega | assumption | trivial | exact room3 (by omega) | exact room46 (by omega) | (exfalso; simp_all; done) | (exfalso; omega) | skip
theorem d99 (W : List (List Int)) (S : List Slt) (m : List Nat) (ms : List (List Int)) (s : Int) (s0 : 0 ≤ s) (s1 : s < S.length) (s2 : ms.length = S.length) (F : LookOk W m (slotAt S s).2.2 (List.getD ms s.toNat [])) : Con Try.prog 99 [.box 119 [slW W, slS S, .own 1 0 m.length (some m.length), .own 2 0 ms.length none], .data 80 (.int .u64) (Mi m), .nest kW ms none] [.ptr 0 0 0, .v (.int .i64 s)] (.own 3 0 (lostC W m (slotAt S s).2.2 (List.getD ms s.toNat [])).length none) [some (.box 119 [slW W, slS S, .own 1 0 m.length (some m.length), .own 2 0 ms.length none]), some (.data 80 (.int .u64) (Mi (lookC W m (slotAt S s).2.2 (List.getD ms s.toNat [])))), some (.nest kW (List.set ms s.toNat (keepI W m (slotAt S s).2.2 (List.getD ms s.toNat []))) none)] [.data 3 (.int .i64) (lostC W m (slotAt S s).2.2 (List.getD ms s.toNat []))] := by
  refine con_vc (how := [none]) (c := n99) (K := (KK n99)) (flag [2000033] spNa) (fun k => [2,6,7,37,38,39]) (fun k => if k = 0 then [⟨7, 3, .int .i64⟩] else [⟨4, 3, .int .i64⟩]) 400 (.hd 0) (V := fun G R => let yy0 := (S.getD s.toNat ((Ty.int IntKind.i64).prod (Ty.bool.prod (Ty.int IntKind.i64).sl)).dflt); let yy1 := (ms.getD (0 + s.toNat) (NK.mk 46 (Ty.int IntKind.i64).sl 0 3 (Ty.int IntKind.i64)).t.dflt); let yy2 := (↑(List.length yy0.snd.snd) : Int); let yy3 := (keepI W (Nt (Mi m)) yy0.snd.snd yy1 ++ List.replicate (List.length yy1 - (keepI W (Nt (Mi m)) yy0.snd.snd yy1).length) (0 : Int)); let yy4 := (Ty.int IntKind.i64); let yy5 := (List.replicate yy2.toNat (0 : Int)); let yy6 := (Ty.int IntKind.u64); let yy7 := (Mi (orI W (Nt (Mi m)) yy0.snd.snd (Nt yy5) yy1)); (0 : Int) ≤ s ∧ s < (↑S.length : Int) ∧ (0 : Int) ≤ yy2 ∧ yy2 ≤ yy2 ∧ yy2 ≤ (9223372036854775807 : Int) ∧ yy2.toNat * 8 ≤ 281474976710656 ∧ (0 : Int) ≤ s ∧ s < (↑ms.length : Int) ∧ 0 + s.toNat < ms.length ∧ Con Try.prog 123 [Row.data 3 yy4 yy1, Row.box 66 [D.own 2 0 yy2.toNat (some yy2.toNat)], Row.data 80 yy6 (Mi (Nt yy5))] [D.own 0 0 (List.length yy1) none, D.fn 124 [D.rptr [D.rptr [D.sl false false yy4.sl W, D.sl false false (yy4.prod (Ty.bool.prod yy4.sl)) S, D.sl false false yy6 (Mi (Nt (Mi m))), D.top]], D.rptr [D.sl false false yy4 yy0.snd.snd], D.ptr 1 0 0]] (D.own 0 0 (keepI W (Nt (Mi m)) yy0.snd.snd yy1).length none) [some (Row.data 3 yy4 yy3), some (Row.box 66 [D.own 2 0 yy2.toNat (some yy2.toNat)]), some (Row.data 80 yy6 yy7)] [] ∧ 7 = 7 ∧ 0 = 0 ∧ List.length yy1 = List.length yy1 ∧ W = W ∧ S = S ∧ List.take m.length (List.drop 0 (Mi m)) = Mi (Nt (Mi m)) ∧ yy0.snd.snd = yy0.snd.snd ∧ 6 = 6 ∧ 0 = 0 ∧ 0 = 0 ∧ yy3.length = List.length yy1 ∧ yy7.length = (Mi (Nt yy5)).length ∧ some (Row.data 3 yy4 yy1) = some (Row.data 3 yy4 yy1) ∧ some (Row.box 66 [D.own 5 0 yy2.toNat (some yy2.toNat)]) = some (Row.box 66 [D.own 5 0 yy2.toNat (some yy2.toNat)]) ∧ some (Row.data 80 yy6 yy5) = some (Row.data 80 yy6 (Mi (Nt yy5))) ∧ (0 : Int) ≤ s ∧ s < (↑ms.length : Int) ∧ 0 + s.toNat < ms.length ∧ 0 + s.toNat = 0 + s.toNat ∧ SameK (KK n99 0) (KK n99 0) ∧ G 0 (stOf 78 [2, 6, 7, 37, 38, 39] [D.ptr 3 0 0, D.ptr 4 0 0, D.own 5 0 0 none, D.sl false false yy4 yy0.snd.snd, D.v (Value.int IntKind.i64 yy2), D.v (Value.int IntKind.i64 (0 : Int))] [Slot.live (Row.box 119 [D.sl false false yy4.sl W, D.sl false false (yy4.prod (Ty.bool.prod yy4.sl)) S, D.own 1 0 m.length (some m.length), D.own 2 0 ms.length none]), Slot.live (Row.data 80 yy6 (Mi m)), Slot.live (Row.nest (NK.mk 46 yy4.sl 0 3 yy4) (ms.set (0 + s.toNat) (List.take (keepI W (Nt (Mi m)) yy0.snd.snd yy1).length yy3)) none), Slot.live (Row.box 116 [D.ptr 0 0 0]), Slot.live (Row.box 66 [D.own 6 0 yy2.toNat (some yy2.toNat)]), Slot.live (Row.data 3 yy4 []), Slot.live (Row.data 80 yy6 yy7)])) hmG Try.func99 (by kernel_rfl) (by kernel_rfl) (fun G R => by kernel_rfl) ?_
  try dsimp only
  try dsimp only
  obtain ⟨C, hC⟩ : ∃ C, (S.getD s.toNat (0, false, [])).2.2 = C := ⟨_, rfl⟩
  obtain ⟨L, hL⟩ : ∃ L, List.getD ms s.toNat [] = L := ⟨_, rfl⟩
  unfold slotAt at F ⊢
  rw [hC, hL] at F
  simp only [Ty.dflt, hC, hL, take_len, List.drop_zero, List.take_length, Mi_getD, Mi_len, Nt_Mi, Int.toNat_natCast, Mi_set, Nat.zero_add, Nat.sub_zero, orI_len, take_one, takeSn, Mi_take, takeL, cast_beq, List.length_append, List.length_cons, List.length_nil, List.length_set]
  have hsz := F.size
  have hr : List.replicate C.length (0 : Int) = Mi (List.replicate C.length 0) := Mi_rep _
  have hkl := keepI_le W m C L
  have c1 := d123 W S m C C.length L (List.replicate C.length 0) rfl F (by simp) (rep_small _)
  have hx := e99 W S m ms s C (thereI W m C L) (ms.set s.toNat (keepI W m C L)) (by unfold thereI; rw [orI_len]; simp) (orI_small W m C L _ (fun i hi => (F.mem i hi).2.2.2) (rep_small _)) F.cells (by omega) (lookC W m C L) (lostC W m C L) C.length 0 m [] (by omega) (by omega) rfl F.small (by simp) rfl rfl
  simp only [hr, List.length_replicate]
  simp only [Nt_Mi]
  unfold thereI at hx
  have hlen : (keepI W m C L).length + (L.length - (keepI W m C L).length) = L.length := by omega
  simp only [hlen]
  simp (disch := omega) only [wrG, sameK_iff, true_and, and_true, decide_eq_true_eq, decide_eq_false_iff_not, ne_eq, not_false_eq_true, Bool.false_eq_true, Bool.true_eq_false, false_implies, true_implies, Ty.dflt, reduceCtorEq, beq_iff_eq, bne_iff_ne, beq_eq_false_iff_ne, bne_eq_false_iff_eq, Bool.not_eq_true, Bool.not_eq_eq_eq_not, Bool.not_true, Bool.not_false, gt_iff_lt, ge_iff_le, Int.not_lt, Int.not_le]
  repeat' (first | with_reducible refine And.intro ?_ ?_ | intro _)
  all_goals first | rfl | omega | assumption | trivial | exact room3 (by omega) | exact room46 (by omega) | (exfalso; simp_all; done) | (exfalso; omega) | skip
def vq26 (g : Gr) (W : List (List Int)) (M : List Nat) (S : List Slt) (ms : List (List Int)) (n : Nat) (s : Int) (C : List Int) (k : Int) (m : List Nat) (G : Nat → St → Prop) (R : D × List (Option Row) × List Row → Prop) : Prop := let yy0 := (Ty.int IntKind.i64); let yy1 := (Row.box 68 [D.v (Value.int IntKind.i64 g.h), D.v (Value.int IntKind.i64 g.w), D.sl false false Ty.bool g.B, D.sl false false Ty.bool g.R, D.sl false false Ty.bool g.L, D.sl false false yy0.sl W, D.sl false false (Ty.int IntKind.u64) (Mi M)]); let yy2 := (Row.box 119 [D.sl false false yy0.sl W, D.sl false false (yy0.prod (Ty.bool.prod yy0.sl)) S, D.own 2 0 n (some n), D.own 3 0 ms.length none]); (decide (k < (↑C.length : Int)) = true → (0 : Int) ≤ k ∧ k < (↑C.length : Int) ∧ (0 : Int) ≤ C.getD k.toNat yy0.dflt ∧ C.getD k.toNat yy0.dflt < (↑(Mi M).length : Int) ∧ (0 : Int) ≤ C.getD k.toNat yy0.dflt ∧ C.getD k.toNat yy0.dflt < (↑n : Int) ∧ 0 + Int.toNat (C.getD k.toNat yy0.dflt) < (Mi m).length ∧ SameK (KK n97 2) (KK n97 2) ∧ G 2 (stOf 81 [1, 3, 25, 26, 27, 61, 62, 63] [D.ptr 0 0 0, D.ptr 1 0 0, D.sl false false (yy0.prod (Ty.bool.prod yy0.sl)) S, D.v (Value.int IntKind.i64 (↑S.length : Int)), D.v (Value.int IntKind.i64 s), D.sl false false yy0 C, D.v (Value.int IntKind.i64 (↑C.length : Int)), D.v (Value.int IntKind.i64 (IntKind.i64.wrap (k + (1 : Int))))] [Slot.live yy1, Slot.live yy2, Slot.live (Row.data 80 (Ty.int IntKind.u64) ((Mi m).set (0 + Int.toNat (C.getD k.toNat yy0.dflt)) ((Mi M).getD (Int.toNat (C.getD k.toNat yy0.dflt)) (Ty.int IntKind.u64).dflt))), Slot.live (Row.nest (NK.mk 46 yy0.sl 0 3 yy0) ms none)])) ∧ (decide (k < (↑C.length : Int)) = false → SameK (KK n97 0) (KK n97 0) ∧ G 0 (stOf 81 [1, 3, 25, 26, 27] [D.ptr 0 0 0, D.ptr 1 0 0, D.sl false false (yy0.prod (Ty.bool.prod yy0.sl)) S, D.v (Value.int IntKind.i64 (↑S.length : Int)), D.v (Value.int IntKind.i64 (IntKind.i64.wrap (s + (1 : Int))))] [Slot.live yy1, Slot.live yy2, Slot.live (Row.data 80 (Ty.int IntKind.u64) (Mi m)), Slot.live (Row.nest (NK.mk 46 yy0.sl 0 3 yy0) ms none)]))
theorem e97c (g : Gr) (W : List (List Int)) (M : List Nat) (S : List Slt) (ms : List (List Int)) (n : Nat) (s : Int) (F : Fine W S M) (hn : M.length = n) (s0 : 0 ≤ s) (s1 : s < S.length) (C : List Int) (hC : (S.getD s.toNat (0, false, [])).2.2 = C) (r1 : List Nat) (r2 : List (List Int)) (mE : List Nat) (hx : GetsK Try.prog Try.f97.results.toList [none] (KK n97) 0 (.ptr 0 0 0, [], [.box 119 [slW W, slS S, .own 1 0 n (some n), .own 2 0 r2.length none], .data 80 (.int .u64) (Mi r1), .nest kW r2 none]) 0 (stOf 81 [1,3,25,26,27] [.ptr 0 0 0, .ptr 1 0 0, slS S, .v (.int .i64 S.length), .v (.int .i64 (s + 1))] [.live (.box 68 [.v (.int .i64 g.h), .v (.int .i64 g.w), .sl false false .bool g.B, .sl false false .bool g.R, .sl false false .bool g.L, slW W, slU M]), .live (.box 119 [slW W, slS S, .own 2 0 n (some n), .own 3 0 ms.length none]), .live (.data 80 (.int .u64) (Mi mE)), .live (.nest kW ms none)])) (z : Nat) : ∀ (k : Int) (m : List Nat), 0 ≤ k → k + z = C.length → m.length = n → seatCells M (C.drop k.toNat) m = mE → GetsK Try.prog Try.f97.results.toList [none] (KK n97) 0 (.ptr 0 0 0, [], [.box 119 [slW W, slS S, .own 1 0 n (some n), .own 2 0 r2.length none], .data 80 (.int .u64) (Mi r1), .nest kW r2 none]) 2 (stOf 81 [1,3,25,26,27,61,62,63] [.ptr 0 0 0, .ptr 1 0 0, slS S, .v (.int .i64 S.length), .v (.int .i64 s), slI C, .v (.int .i64 C.length), .v (.int .i64 k)] [.live (.box 68 [.v (.int .i64 g.h), .v (.int .i64 g.w), .sl false false .bool g.B, .sl false false .bool g.R, .sl false false .bool g.L, slW W, slU M]), .live (.box 119 [slW W, slS S, .own 2 0 n (some n), .own 3 0 ms.length none]), .live (.data 80 (.int .u64) (Mi m)), .live (.nest kW ms none)]) := by
  have hs1 : IntKind.i64.wrap (s + 1) = s + 1 := by have := F.slots; exact wrG (by omega) (by omega)
  have hc1 := F.cells _ (getD_in (d := (0, false, [])) (k := s.toNat) (by omega))
  rw [hC] at hc1
  have hsl := F.slots
  induction z with
  | zero =>
    intro k m k0 hk hm he
    rw [List.drop_eq_nil_of_le (by omega)] at he
    have he : m = mE := he
    subst he
    refine gets_vc (flag [2000056] spNa) (fun k => [[1,3,25,26,27],[1,3,5,6,25,26,27,32,33,34],[1,3,25,26,27,61,62,63]].getD k []) (fun k => if k = 1 then [⟨4030003, 46, WT⟩, ⟨6, 3, .int .i64⟩] else if k < 3 then [⟨4030003, 46, WT⟩] else []) 400 (.fork (.hd 2) (.hd 0)) (V := vq26 g W M S ms n s C k m) hmG (fun G R => by kernel_rfl) ?_
    unfold vq26
    try dsimp only
    simp only [hs1]
    simp (disch := omega) only [wrG, sameK_iff, true_and, and_true, decide_eq_true_eq, decide_eq_false_iff_not, ne_eq, not_false_eq_true, Bool.false_eq_true, Bool.true_eq_false, false_implies, true_implies, Ty.dflt, reduceCtorEq, beq_iff_eq, bne_iff_ne, beq_eq_false_iff_ne, bne_eq_false_iff_eq, Bool.not_eq_true, Bool.not_eq_eq_eq_not, Bool.not_true, Bool.not_false, gt_iff_lt, ge_iff_le, Int.not_lt, Int.not_le]
    repeat' (first | with_reducible refine And.intro ?_ ?_ | intro _)
    all_goals first | rfl | omega | assumption | trivial | exact room3 (by omega) | exact room46 (by omega) | (exfalso; simp_all; done) | (exfalso; omega) | skip
  | succ z ih =>
    intro k m k0 hk hm he
    have hd := drop_at (xs := C) (i := k) (0 : Int) k0 (by omega)
    rw [hd] at he
    simp only [seatCells] at he
    have hk1 : IntKind.i64.wrap (k + 1) = k + 1 := by have := hc1.1; exact wrG (by omega) (by omega)
    have hc2 := hc1.2 _ (getD_in (d := 0) (k := k.toNat) (l := C) (by omega))
    obtain ⟨c, hcc⟩ : ∃ c, C.getD k.toNat 0 = c := ⟨_, rfl⟩
    rw [hcc] at he hc2
    have hx2 := ih (k + 1) (m.set c.toNat (M.getD c.toNat 0)) (by omega) (by omega) (by rw [List.length_set]; exact hm) he
    refine gets_vc (flag [2000056] spNa) (fun k => [[1,3,25,26,27],[1,3,5,6,25,26,27,32,33,34],[1,3,25,26,27,61,62,63]].getD k []) (fun k => if k = 1 then [⟨4030003, 46, WT⟩, ⟨6, 3, .int .i64⟩] else if k < 3 then [⟨4030003, 46, WT⟩] else []) 400 (.fork (.hd 2) (.hd 0)) (V := vq26 g W M S ms n s C k m) hmG (fun G R => by kernel_rfl) ?_
    unfold vq26
    try dsimp only
    simp only [Ty.dflt, hk1, hcc, take_len, List.drop_zero, List.take_length, Mi_getD, Mi_len, Nt_Mi, Int.toNat_natCast, Mi_set, Nat.zero_add, Nat.sub_zero, orI_len, take_one, takeSn, Mi_take, takeL, cast_beq, List.length_append, List.length_cons, List.length_nil, List.length_set]
    simp (disch := omega) only [wrG, sameK_iff, true_and, and_true, decide_eq_true_eq, decide_eq_false_iff_not, ne_eq, not_false_eq_true, Bool.false_eq_true, Bool.true_eq_false, false_implies, true_implies, Ty.dflt, reduceCtorEq, beq_iff_eq, bne_iff_ne, beq_eq_false_iff_ne, bne_eq_false_iff_eq, Bool.not_eq_true, Bool.not_eq_eq_eq_not, Bool.not_true, Bool.not_false, gt_iff_lt, ge_iff_le, Int.not_lt, Int.not_le]
    repeat' (first | with_reducible refine And.intro ?_ ?_ | intro _)
    all_goals first | rfl | omega | assumption | trivial | exact room3 (by omega) | exact room46 (by omega) | (exfalso; simp_all; done) | (exfalso; omega) | skip
theorem e97w (g : Gr) (W : List (List Int)) (M : List Nat) (S : List Slt) (m : List Nat) (ms : List (List Int)) (n : Nat) (s : Int) (F : Fine W S M) (s0 : 0 ≤ s) (s1 : s < S.length) (x : Int) (d : Bool) (C : List Int) (f : List Int → Bool) (hf : f = fun w => w.length == C.length) (hms : ms.length ≤ 1000) (r1 : List Nat) (r2 : List (List Int)) (hx : GetsK Try.prog Try.f97.results.toList [none] (KK n97) 0 (.ptr 0 0 0, [], [.box 119 [slW W, slS S, .own 1 0 n (some n), .own 2 0 r2.length none], .data 80 (.int .u64) (Mi r1), .nest kW r2 none]) 2 (stOf 81 [1,3,25,26,27,61,62,63] [.ptr 0 0 0, .ptr 1 0 0, slS S, .v (.int .i64 S.length), .v (.int .i64 s), slI C, .v (.int .i64 C.length), .v (.int .i64 0)] [.live (.box 68 [.v (.int .i64 g.h), .v (.int .i64 g.w), .sl false false .bool g.B, .sl false false .bool g.R, .sl false false .bool g.L, slW W, slU M]), .live (.box 119 [slW W, slS S, .own 2 0 n (some n), .own 3 0 (ms ++ [idxF f 0 W]).length none]), .live (.data 80 (.int .u64) (Mi m)), .live (.nest kW (ms ++ [idxF f 0 W]) none)])) (z : Nat) : ∀ (i : Int), 0 ≤ i → i + z = W.length → GetsK Try.prog Try.f97.results.toList [none] (KK n97) 0 (.ptr 0 0 0, [], [.box 119 [slW W, slS S, .own 1 0 n (some n), .own 2 0 r2.length none], .data 80 (.int .u64) (Mi r1), .nest kW r2 none]) 1 (stOf 81 [1,3,5,6,25,26,27,32,33,34] [.ptr 0 0 0, .ptr 1 0 0, .ptr 2 0 0, .own 3 0 (idxF f 0 (W.take i.toNat)).length none, slS S, .v (.int .i64 S.length), .v (.int .i64 s), slW W, .v (.int .i64 W.length), .v (.int .i64 i)] [.live (.box 68 [.v (.int .i64 g.h), .v (.int .i64 g.w), .sl false false .bool g.B, .sl false false .bool g.R, .sl false false .bool g.L, slW W, slU M]), .live (.box 119 [slW W, slS S, .own 4 0 n (some n), .own 5 0 ms.length none]), .live (.box 86 [.v (.int .i64 x), .v (.bool d), slI C]), .live (.data 3 (.int .i64) (idxF f 0 (W.take i.toNat))), .live (.data 80 (.int .u64) (Mi m)), .live (.nest kW ms none)]) := by
  have hfw := F.words
  induction z with
  | zero =>
    intro i i0 hi
    rw [List.take_of_length_le (by omega)]
    rw [List.length_append, List.length_cons, List.length_nil] at hx
    refine gets_vc (flag [2000056] spNa) (fun k => [[1,3,25,26,27],[1,3,5,6,25,26,27,32,33,34],[1,3,25,26,27,61,62,63]].getD k []) (fun k => if k = 1 then [⟨4030003, 46, WT⟩, ⟨6, 3, .int .i64⟩] else if k < 3 then [⟨4030003, 46, WT⟩] else []) 400 (.fork (.fork (.hd 1) (.hd 1)) (.hd 2)) (V := fun G R => let yy0 := (Ty.int IntKind.i64); let yy1 := (Row.box 68 [D.v (Value.int IntKind.i64 g.h), D.v (Value.int IntKind.i64 g.w), D.sl false false Ty.bool g.B, D.sl false false Ty.bool g.R, D.sl false false Ty.bool g.L, D.sl false false yy0.sl W, D.sl false false (Ty.int IntKind.u64) (Mi M)]); let yy2 := (yy0.prod (Ty.bool.prod yy0.sl)); let yy3 := (idxF f (0 : Int) W); let yy4 := (Row.box 119 [D.sl false false yy0.sl W, D.sl false false yy2 S, D.own 4 0 n (some n), D.own 5 0 ms.length none]); let yy5 := (Row.box 86 [D.v (Value.int IntKind.i64 x), D.v (Value.bool d), D.sl false false yy0 C]); let yy6 := (Value.int IntKind.i64 (↑S.length : Int)); let yy7 := (Row.data 80 (Ty.int IntKind.u64) (Mi m)); let yy8 := ((↑(List.length (W.getD i.toNat yy0.sl.dflt)) : Int) == (↑C.length : Int)); (decide (i < (↑W.length : Int)) = true → (0 : Int) ≤ i ∧ i < (↑W.length : Int) ∧ (yy8 = true → roomy Try.prog 3 (yy3.length + 1) ∧ SameK (KK n97 1) (KK n97 1) ∧ G 1 (stOf 81 [1, 3, 5, 6, 25, 26, 27, 32, 33, 34] [D.ptr 0 0 0, D.ptr 1 0 0, D.ptr 2 0 0, D.own 3 0 (yy3.length + 1) none, D.sl false false yy2 S, D.v yy6, D.v (Value.int IntKind.i64 s), D.sl false false yy0.sl W, D.v (Value.int IntKind.i64 (↑W.length : Int)), D.v (Value.int IntKind.i64 (IntKind.i64.wrap (i + (1 : Int))))] [Slot.live yy1, Slot.live yy4, Slot.live yy5, Slot.live (Row.data 3 yy0 (List.take yy3.length (List.drop 0 yy3) ++ List.take 1 (List.drop 0 [i]))), Slot.live yy7, Slot.live (Row.nest (NK.mk 46 yy0.sl 0 3 yy0) ms none)])) ∧ (yy8 = false → SameK (KK n97 1) (KK n97 1) ∧ G 1 (stOf 81 [1, 3, 5, 6, 25, 26, 27, 32, 33, 34] [D.ptr 0 0 0, D.ptr 1 0 0, D.ptr 2 0 0, D.own 3 0 yy3.length none, D.sl false false yy2 S, D.v yy6, D.v (Value.int IntKind.i64 s), D.sl false false yy0.sl W, D.v (Value.int IntKind.i64 (↑W.length : Int)), D.v (Value.int IntKind.i64 (IntKind.i64.wrap (i + (1 : Int))))] [Slot.live yy1, Slot.live yy4, Slot.live yy5, Slot.live (Row.data 3 yy0 yy3), Slot.live yy7, Slot.live (Row.nest (NK.mk 46 yy0.sl 0 3 yy0) ms none)]))) ∧ (decide (i < (↑W.length : Int)) = false → 1 = 1 ∧ roomy Try.prog 46 (ms.length + 1) ∧ SameK (KK n97 2) (KK n97 2) ∧ G 2 (stOf 81 [1, 3, 25, 26, 27, 61, 62, 63] [D.ptr 0 0 0, D.ptr 1 0 0, D.sl false false yy2 S, D.v yy6, D.v (Value.int IntKind.i64 s), D.sl false false yy0 C, D.v (Value.int IntKind.i64 (↑C.length : Int)), D.v (Value.int IntKind.i64 (0 : Int))] [Slot.live yy1, Slot.live (Row.box 119 [D.sl false false yy0.sl W, D.sl false false yy2 S, D.own 2 0 n (some n), D.own 3 0 (ms.length + 1) none]), Slot.live yy7, Slot.live (Row.nest (NK.mk 46 yy0.sl 0 3 yy0) (List.take ms.length ms ++ [List.take yy3.length (List.drop 0 yy3)]) none)]))) hmG (fun G R => by kernel_rfl) ?_
    try dsimp only
    simp only [take_len, List.drop_zero, List.take_length, Mi_getD, Mi_len, Nt_Mi, Int.toNat_natCast, Mi_set, Nat.zero_add, Nat.sub_zero, orI_len, take_one, takeSn, Mi_take, takeL, cast_beq, List.length_append, List.length_cons, List.length_nil, List.length_set]
    simp (disch := omega) only [wrG, sameK_iff, true_and, and_true, decide_eq_true_eq, decide_eq_false_iff_not, ne_eq, not_false_eq_true, Bool.false_eq_true, Bool.true_eq_false, false_implies, true_implies, Ty.dflt, reduceCtorEq, beq_iff_eq, bne_iff_ne, beq_eq_false_iff_ne, bne_eq_false_iff_eq, Bool.not_eq_true, Bool.not_eq_eq_eq_not, Bool.not_true, Bool.not_false, gt_iff_lt, ge_iff_le, Int.not_lt, Int.not_le]
    repeat' (first | with_reducible refine And.intro ?_ ?_ | intro _)
    all_goals first | rfl | omega | assumption | trivial | exact room3 (by omega) | exact room46 (by omega) | (exfalso; simp_all; done) | (exfalso; omega) | skip
  | succ z ih =>
    intro i i0 hi
    have hi1 : IntKind.i64.wrap (i + 1) = i + 1 := wrG (by omega) (by omega)
    have ht := take_succ_at ([] : List Int) W i0 (by omega)
    obtain ⟨w, hw⟩ : ∃ w, W.getD i.toNat [] = w := ⟨_, rfl⟩
    rw [hw] at ht
    have htl : (W.take i.toNat).length = i.toNat := by rw [List.length_take]; omega
    have hil : (idxF f 0 (W.take i.toNat)).length ≤ i.toNat := Nat.le_trans (idx_len f _ 0) (Nat.le_of_eq htl)
    have hx2 := ih (i + 1) (by omega) (by omega)
    rw [ht, idx_snoc, htl, show (0 : Int) + (i.toNat : Int) = i by omega] at hx2
    obtain ⟨l, hl⟩ : ∃ l, idxF f 0 (W.take i.toNat) = l := ⟨_, rfl⟩
    rw [hl] at hx2 hil ⊢
    have hfw2 : (w.length == C.length) = f w := by rw [hf]
    refine gets_vc (flag [2000056] spNa) (fun k => [[1,3,25,26,27],[1,3,5,6,25,26,27,32,33,34],[1,3,25,26,27,61,62,63]].getD k []) (fun k => if k = 1 then [⟨4030003, 46, WT⟩, ⟨6, 3, .int .i64⟩] else if k < 3 then [⟨4030003, 46, WT⟩] else []) 400 (.fork (.fork (.hd 1) (.hd 1)) (.hd 2)) (V := fun G R => let yy0 := (Ty.int IntKind.i64); let yy1 := (Row.box 68 [D.v (Value.int IntKind.i64 g.h), D.v (Value.int IntKind.i64 g.w), D.sl false false Ty.bool g.B, D.sl false false Ty.bool g.R, D.sl false false Ty.bool g.L, D.sl false false yy0.sl W, D.sl false false (Ty.int IntKind.u64) (Mi M)]); let yy2 := (yy0.prod (Ty.bool.prod yy0.sl)); let yy3 := (Row.box 119 [D.sl false false yy0.sl W, D.sl false false yy2 S, D.own 4 0 n (some n), D.own 5 0 ms.length none]); let yy4 := (Row.box 86 [D.v (Value.int IntKind.i64 x), D.v (Value.bool d), D.sl false false yy0 C]); let yy5 := (Value.int IntKind.i64 (↑S.length : Int)); let yy6 := (Row.data 80 (Ty.int IntKind.u64) (Mi m)); let yy7 := ((↑(List.length (W.getD i.toNat yy0.sl.dflt)) : Int) == (↑C.length : Int)); (decide (i < (↑W.length : Int)) = true → (0 : Int) ≤ i ∧ i < (↑W.length : Int) ∧ (yy7 = true → roomy Try.prog 3 (l.length + 1) ∧ SameK (KK n97 1) (KK n97 1) ∧ G 1 (stOf 81 [1, 3, 5, 6, 25, 26, 27, 32, 33, 34] [D.ptr 0 0 0, D.ptr 1 0 0, D.ptr 2 0 0, D.own 3 0 (l.length + 1) none, D.sl false false yy2 S, D.v yy5, D.v (Value.int IntKind.i64 s), D.sl false false yy0.sl W, D.v (Value.int IntKind.i64 (↑W.length : Int)), D.v (Value.int IntKind.i64 (IntKind.i64.wrap (i + (1 : Int))))] [Slot.live yy1, Slot.live yy3, Slot.live yy4, Slot.live (Row.data 3 yy0 (List.take l.length (List.drop 0 l) ++ List.take 1 (List.drop 0 [i]))), Slot.live yy6, Slot.live (Row.nest (NK.mk 46 yy0.sl 0 3 yy0) ms none)])) ∧ (yy7 = false → SameK (KK n97 1) (KK n97 1) ∧ G 1 (stOf 81 [1, 3, 5, 6, 25, 26, 27, 32, 33, 34] [D.ptr 0 0 0, D.ptr 1 0 0, D.ptr 2 0 0, D.own 3 0 l.length none, D.sl false false yy2 S, D.v yy5, D.v (Value.int IntKind.i64 s), D.sl false false yy0.sl W, D.v (Value.int IntKind.i64 (↑W.length : Int)), D.v (Value.int IntKind.i64 (IntKind.i64.wrap (i + (1 : Int))))] [Slot.live yy1, Slot.live yy3, Slot.live yy4, Slot.live (Row.data 3 yy0 l), Slot.live yy6, Slot.live (Row.nest (NK.mk 46 yy0.sl 0 3 yy0) ms none)]))) ∧ (decide (i < (↑W.length : Int)) = false → 1 = 1 ∧ roomy Try.prog 46 (ms.length + 1) ∧ SameK (KK n97 2) (KK n97 2) ∧ G 2 (stOf 81 [1, 3, 25, 26, 27, 61, 62, 63] [D.ptr 0 0 0, D.ptr 1 0 0, D.sl false false yy2 S, D.v yy5, D.v (Value.int IntKind.i64 s), D.sl false false yy0 C, D.v (Value.int IntKind.i64 (↑C.length : Int)), D.v (Value.int IntKind.i64 (0 : Int))] [Slot.live yy1, Slot.live (Row.box 119 [D.sl false false yy0.sl W, D.sl false false yy2 S, D.own 2 0 n (some n), D.own 3 0 (ms.length + 1) none]), Slot.live yy6, Slot.live (Row.nest (NK.mk 46 yy0.sl 0 3 yy0) (List.take ms.length ms ++ [List.take l.length (List.drop 0 l)]) none)]))) hmG (fun G R => by kernel_rfl) ?_
    try dsimp only
    simp only [Ty.dflt, hi1, hw, take_len, List.drop_zero, List.take_length, Mi_getD, Mi_len, Nt_Mi, Int.toNat_natCast, Mi_set, Nat.zero_add, Nat.sub_zero, orI_len, take_one, takeSn, Mi_take, takeL, cast_beq, List.length_append, List.length_cons, List.length_nil, List.length_set, hfw2]
    rcases Bool.eq_false_or_eq_true (f w) with h | h
    · rw [h, if_pos rfl, List.length_append, List.length_cons, List.length_nil] at hx2
      rw [h]
      simp (disch := omega) only [wrG, sameK_iff, true_and, and_true, decide_eq_true_eq, decide_eq_false_iff_not, ne_eq, not_false_eq_true, Bool.false_eq_true, Bool.true_eq_false, false_implies, true_implies, Ty.dflt, reduceCtorEq, beq_iff_eq, bne_iff_ne, beq_eq_false_iff_ne, bne_eq_false_iff_eq, Bool.not_eq_true, Bool.not_eq_eq_eq_not, Bool.not_true, Bool.not_false, gt_iff_lt, ge_iff_le, Int.not_lt, Int.not_le]
      repeat' (first | with_reducible refine And.intro ?_ ?_ | intro _)
      all_goals first | rfl | omega | assumption | trivial | exact room3 (by omega) | exact room46 (by omega) | (exfalso; simp_all; done) | (exfalso; omega) | skip
    · rw [h, if_neg (by simp), List.append_nil] at hx2
      rw [h]
      simp (disch := omega) only [wrG, sameK_iff, true_and, and_true, decide_eq_true_eq, decide_eq_false_iff_not, ne_eq, not_false_eq_true, Bool.false_eq_true, Bool.true_eq_false, false_implies, true_implies, Ty.dflt, reduceCtorEq, beq_iff_eq, bne_iff_ne, beq_eq_false_iff_ne, bne_eq_false_iff_eq, Bool.not_eq_true, Bool.not_eq_eq_eq_not, Bool.not_true, Bool.not_false, gt_iff_lt, ge_iff_le, Int.not_lt, Int.not_le]
      repeat' (first | with_reducible refine And.intro ?_ ?_ | intro _)
      all_goals first | rfl | omega | assumption | trivial | exact room3 (by omega) | exact room46 (by omega) | (exfalso; simp_all; done) | (exfalso; omega) | skip
def vq27 (g : Gr) (W : List (List Int)) (M : List Nat) (S : List Slt) (n : Nat) (s : Int) (m : List Nat) (ms : List (List Int)) (G : Nat → St → Prop) (R : D × List (Option Row) × List Row → Prop) : Prop := let yy0 := (Ty.int IntKind.i64); let yy1 := (yy0.prod (Ty.bool.prod yy0.sl)); (decide (s < (↑S.length : Int)) = true → (0 : Int) ≤ s ∧ s < (↑S.length : Int) ∧ SameK (KK n97 1) (KK n97 1) ∧ G 1 (stOf 81 [1, 3, 5, 6, 25, 26, 27, 32, 33, 34] [D.ptr 0 0 0, D.ptr 1 0 0, D.ptr 2 0 0, D.own 3 0 0 none, D.sl false false yy1 S, D.v (Value.int IntKind.i64 (↑S.length : Int)), D.v (Value.int IntKind.i64 s), D.sl false false yy0.sl W, D.v (Value.int IntKind.i64 (↑W.length : Int)), D.v (Value.int IntKind.i64 (0 : Int))] [Slot.live (Row.box 68 [D.v (Value.int IntKind.i64 g.h), D.v (Value.int IntKind.i64 g.w), D.sl false false Ty.bool g.B, D.sl false false Ty.bool g.R, D.sl false false Ty.bool g.L, D.sl false false yy0.sl W, D.sl false false (Ty.int IntKind.u64) (Mi M)]), Slot.live (Row.box 119 [D.sl false false yy0.sl W, D.sl false false yy1 S, D.own 4 0 n (some n), D.own 5 0 ms.length none]), Slot.live (Row.box 86 [D.v (Value.int IntKind.i64 (S.getD s.toNat yy1.dflt).fst), D.v (Value.bool (S.getD s.toNat yy1.dflt).snd.fst), D.sl false false yy0 (S.getD s.toNat yy1.dflt).snd.snd]), Slot.live (Row.data 3 yy0 []), Slot.live (Row.data 80 (Ty.int IntKind.u64) (Mi m)), Slot.live (Row.nest (NK.mk 46 yy0.sl 0 3 yy0) ms none)])) ∧ (decide (s < (↑S.length : Int)) = false → R (D.ptr 0 0 0, [], [Row.box 119 [D.sl false false yy0.sl W, D.sl false false yy1 S, D.own 1 0 n (some n), D.own 2 0 ms.length none], Row.data 80 (Ty.int IntKind.u64) (Mi m), Row.nest (NK.mk 46 yy0.sl 0 3 yy0) ms none]))
theorem e97 (g : Gr) (W : List (List Int)) (M : List Nat) (S : List Slt) (n : Nat) (F : Fine W S M) (hn : M.length = n) (r1 : List Nat) (r2 : List (List Int)) (h2 : mayF W S = r2) (z : Nat) : ∀ (s : Int) (m : List Nat) (ms : List (List Int)), 0 ≤ s → s + z = S.length → m.length = n → seatSlots M (S.drop s.toNat) m = r1 → ms = mayF W (S.take s.toNat) → GetsK Try.prog Try.f97.results.toList [none] (KK n97) 0 (.ptr 0 0 0, [], [.box 119 [slW W, slS S, .own 1 0 n (some n), .own 2 0 r2.length none], .data 80 (.int .u64) (Mi r1), .nest kW r2 none]) 0 (stOf 81 [1,3,25,26,27] [.ptr 0 0 0, .ptr 1 0 0, slS S, .v (.int .i64 S.length), .v (.int .i64 s)] [.live (.box 68 [.v (.int .i64 g.h), .v (.int .i64 g.w), .sl false false .bool g.B, .sl false false .bool g.R, .sl false false .bool g.L, slW W, slU M]), .live (.box 119 [slW W, slS S, .own 2 0 n (some n), .own 3 0 ms.length none]), .live (.data 80 (.int .u64) (Mi m)), .live (.nest kW ms none)]) := by
  have hsl := F.slots
  induction z with
  | zero =>
    intro s m ms s0 hs hm h1 hms
    rw [List.drop_eq_nil_of_le (by omega)] at h1
    rw [List.take_of_length_le (by omega), h2] at hms
    have h1 : m = r1 := h1
    subst h1; subst hms
    refine gets_vc (flag [2000056] spNa) (fun k => [[1,3,25,26,27],[1,3,5,6,25,26,27,32,33,34],[1,3,25,26,27,61,62,63]].getD k []) (fun k => if k = 1 then [⟨4030003, 46, WT⟩, ⟨6, 3, .int .i64⟩] else if k < 3 then [⟨4030003, 46, WT⟩] else []) 400 (.fork (.hd 1) .stop) (V := vq27 g W M S n s m ms) hmG (fun G R => by kernel_rfl) ?_
    unfold vq27
    try dsimp only
    simp (disch := omega) only [wrG, sameK_iff, true_and, and_true, decide_eq_true_eq, decide_eq_false_iff_not, ne_eq, not_false_eq_true, Bool.false_eq_true, Bool.true_eq_false, false_implies, true_implies, Ty.dflt, reduceCtorEq, beq_iff_eq, bne_iff_ne, beq_eq_false_iff_ne, bne_eq_false_iff_eq, Bool.not_eq_true, Bool.not_eq_eq_eq_not, Bool.not_true, Bool.not_false, gt_iff_lt, ge_iff_le, Int.not_lt, Int.not_le]
    repeat' (first | with_reducible refine And.intro ?_ ?_ | intro _)
    all_goals first | rfl | omega | assumption | trivial | exact room3 (by omega) | exact room46 (by omega) | (exfalso; simp_all; done) | (exfalso; omega) | skip
  | succ z ih =>
    intro s m ms s0 hs hm h1 hms
    have hd := drop_at (xs := S) (i := s) ((0, false, []) : Slt) s0 (by omega)
    have ht := take_succ_at ((0, false, []) : Slt) S s0 (by omega)
    obtain ⟨C, hC⟩ : ∃ C, (S.getD s.toNat (0, false, [])).2.2 = C := ⟨_, rfl⟩
    rw [hd] at h1
    simp only [seatSlots, hC] at h1
    have hml : ms.length ≤ 1000 := by rw [hms, may_len, List.length_take]; omega
    have hx := ih (s + 1) (seatCells M C m) (ms ++ [idxF (fun w => w.length == C.length) 0 W]) (by omega) (by omega) (by rw [seatCells_len]; exact hm) h1 (by rw [ht, may_snoc, hms, hC])
    have hx3 := e97c g W M S (ms ++ [idxF (fun w => w.length == C.length) 0 W]) n s F hn s0 (by omega) C hC r1 r2 _ hx C.length 0 m (by omega) (by omega) hm rfl
    have hx1 := e97w g W M S m ms n s F s0 (by omega) (S.getD s.toNat (0, false, [])).1 (S.getD s.toNat (0, false, [])).2.1 C (fun w => w.length == C.length) rfl hml r1 r2 hx3 W.length 0 (by omega) (by omega)
    simp only [show (0 : Int).toNat = 0 by rfl, List.take_zero, idxF, List.length_nil] at hx1
    refine gets_vc (flag [2000056] spNa) (fun k => [[1,3,25,26,27],[1,3,5,6,25,26,27,32,33,34],[1,3,25,26,27,61,62,63]].getD k []) (fun k => if k = 1 then [⟨4030003, 46, WT⟩, ⟨6, 3, .int .i64⟩] else if k < 3 then [⟨4030003, 46, WT⟩] else []) 400 (.fork (.hd 1) .stop) (V := vq27 g W M S n s m ms) hmG (fun G R => by kernel_rfl) ?_
    unfold vq27
    try dsimp only
    simp only [Ty.dflt, hC]
    simp (disch := omega) only [wrG, sameK_iff, true_and, and_true, decide_eq_true_eq, decide_eq_false_iff_not, ne_eq, not_false_eq_true, Bool.false_eq_true, Bool.true_eq_false, false_implies, true_implies, Ty.dflt, reduceCtorEq, beq_iff_eq, bne_iff_ne, beq_eq_false_iff_ne, bne_eq_false_iff_eq, Bool.not_eq_true, Bool.not_eq_eq_eq_not, Bool.not_true, Bool.not_false, gt_iff_lt, ge_iff_le, Int.not_lt, Int.not_le]
    repeat' (first | with_reducible refine And.intro ?_ ?_ | intro _)
    all_goals first | rfl | omega | assumption | trivial | exact room3 (by omega) | exact room46 (by omega) | (exfalso; simp_all; done) | (exfalso; omega) | skip
theorem d97 (g : Gr) (W : List (List Int)) (M : List Nat) (F : Fine W (slotsF g) M) : Con Try.prog 97 [] [.agg [.v (.int .i64 g.h), .v (.int .i64 g.w), .sl false false .bool g.B, .sl false false .bool g.R, .sl false false .bool g.L, slW W, slU M]] (.ptr 0 0 0) [] [.box 119 [slW W, slS (slotsF g), .own 1 0 M.length (some M.length), .own 2 0 (mayF W (slotsF g)).length none], .data 80 (.int .u64) (Mi (m0F ⟨g, W, M⟩)), .nest kW (mayF W (slotsF g)) none] := by
  refine con_vc (how := [none]) (c := n97) (K := (KK n97)) (flag [2000056] spNa) (fun k => [[1,3,25,26,27],[1,3,5,6,25,26,27,32,33,34],[1,3,25,26,27,61,62,63]].getD k []) (fun k => if k = 1 then [⟨4030003, 46, WT⟩, ⟨6, 3, .int .i64⟩] else if k < 3 then [⟨4030003, 46, WT⟩] else []) 400 (.hd 0) (V := fun G R => let yy0 := (Ty.int IntKind.i64); let yy1 := (↑(Mi M).length : Int); Con Try.prog 65 [] [D.agg [D.v (Value.int IntKind.i64 g.h), D.v (Value.int IntKind.i64 g.w), D.sl false false Ty.bool g.B, D.sl false false Ty.bool g.R, D.sl false false Ty.bool g.L]] (D.sl false false (yy0.prod (Ty.bool.prod yy0.sl)) (slotsF g)) [] [] ∧ Value.int IntKind.i64 g.h = Value.int IntKind.i64 g.h ∧ Value.int IntKind.i64 g.w = Value.int IntKind.i64 g.w ∧ g.B = g.B ∧ g.R = g.R ∧ g.L = g.L ∧ (0 : Int) ≤ yy1 ∧ yy1 ≤ yy1 ∧ yy1 ≤ (9223372036854775807 : Int) ∧ yy1.toNat * 8 ≤ 281474976710656 ∧ SameK (KK n97 0) (KK n97 0) ∧ G 0 (stOf 81 [1, 3, 25, 26, 27] [D.ptr 0 0 0, D.ptr 1 0 0, D.sl false false (yy0.prod (Ty.bool.prod yy0.sl)) (slotsF g), D.v (Value.int IntKind.i64 (↑(slotsF g).length : Int)), D.v (Value.int IntKind.i64 (0 : Int))] [Slot.live (Row.box 68 [D.v (Value.int IntKind.i64 g.h), D.v (Value.int IntKind.i64 g.w), D.sl false false Ty.bool g.B, D.sl false false Ty.bool g.R, D.sl false false Ty.bool g.L, D.sl false false yy0.sl W, D.sl false false (Ty.int IntKind.u64) (Mi M)]), Slot.live (Row.box 119 [D.sl false false yy0.sl W, D.sl false false (yy0.prod (Ty.bool.prod yy0.sl)) (slotsF g), D.own 2 0 yy1.toNat (some yy1.toNat), D.own 3 0 0 none]), Slot.live (Row.data 80 (Ty.int IntKind.u64) (List.replicate yy1.toNat (0 : Int))), Slot.live (Row.nest (NK.mk 46 yy0.sl 0 3 yy0) [] none)])) hmG Try.func97 (by kernel_rfl) (by kernel_rfl) (fun G R => by kernel_rfl) ?_
  try dsimp only
  try dsimp only
  have c1 := d65s g
  have hsz := F.size
  have hr : List.replicate M.length (0 : Int) = Mi (List.replicate M.length 0) := Mi_rep _
  have hx := e97 g W M (slotsF g) M.length F rfl _ _ rfl (slotsF g).length 0 (List.replicate M.length 0) [] (by omega) (by omega) (by simp) rfl rfl
  simp only [take_len, List.drop_zero, List.take_length, Mi_getD, Mi_len, Nt_Mi, Int.toNat_natCast, Mi_set, Nat.zero_add, Nat.sub_zero, orI_len, take_one, takeSn, Mi_take, takeL, cast_beq, List.length_append, List.length_cons, List.length_nil, List.length_set, hr]
  simp (disch := omega) only [wrG, sameK_iff, true_and, and_true, decide_eq_true_eq, decide_eq_false_iff_not, ne_eq, not_false_eq_true, Bool.false_eq_true, Bool.true_eq_false, false_implies, true_implies, Ty.dflt, reduceCtorEq, beq_iff_eq, bne_iff_ne, beq_eq_false_iff_ne, bne_eq_false_iff_eq, Bool.not_eq_true, Bool.not_eq_eq_eq_not, Bool.not_true, Bool.not_false, gt_iff_lt, ge_iff_le, Int.not_lt, Int.not_le]
  repeat' (first | with_reducible refine And.intro ?_ ?_ | intro _)
  all_goals first | rfl | omega | assumption | trivial | exact room3 (by omega) | exact room46 (by omega) | (exfalso; simp_all; done) | (exfalso; omega) | skip
end Go.Proofs.YtnakmganodkliaaAm
set_option maxRecDepth 100000
namespace Go.Proofs.YtnakmganodkliaaAm
open Go
def vq28 (S : List (Int × Bool × List Int)) (s : Int) (cells : List Int) (k : Int) (A : List (Int × Int)) (E : List (Int × Int)) (G : Nat → St → Prop) (R : D × List (Option Row) × List Row → Prop) : Prop := let yy0 := (Ty.int IntKind.i64); (decide (k < (↑cells.length : Int)) = true → (0 : Int) ≤ k ∧ k < (↑cells.length : Int) ∧ (0 : Int) ≤ (0 : Int) ∧ (0 : Int) < (↑2 : Int) ∧ (0 : Int) ≤ cells.getD k.toNat yy0.dflt ∧ cells.getD k.toNat yy0.dflt < (↑A.length : Int) ∧ 0 + Int.toNat (cells.getD k.toNat yy0.dflt) < A.length ∧ SameK (KK q77 2) (KK q77 2) ∧ G 2 (stOf 63 [4, 5, 7, 32, 33, 34, 42, 43, 44] [D.ptr 0 0 0, D.v (Value.int IntKind.i64 s), D.v (Value.int IntKind.i64 (0 : Int)), D.own 1 0 S.length none, D.v (Value.int IntKind.i64 (↑S.length : Int)), D.v (Value.int IntKind.i64 s), D.sl false false yy0 cells, D.v (Value.int IntKind.i64 (↑cells.length : Int)), D.v (Value.int IntKind.i64 (IntKind.i64.wrap (k + (1 : Int))))] [Slot.live (Row.box 138 [D.own 2 0 A.length none, D.own 3 0 E.length none]), Slot.live (Row.data 86 (yy0.prod (Ty.bool.prod yy0.sl)) S), Slot.live (Row.data 104 (yy0.prod yy0) (A.set (0 + Int.toNat (cells.getD k.toNat yy0.dflt)) (s, k))), Slot.live (Row.data 104 (yy0.prod yy0) E)])) ∧ (decide (k < (↑cells.length : Int)) = false → SameK (KK q77 1) (KK q77 1) ∧ G 1 (stOf 63 [4, 32, 33, 34] [D.ptr 0 0 0, D.own 1 0 S.length none, D.v (Value.int IntKind.i64 (↑S.length : Int)), D.v (Value.int IntKind.i64 (IntKind.i64.wrap (s + (1 : Int))))] [Slot.live (Row.box 138 [D.own 2 0 A.length none, D.own 3 0 E.length none]), Slot.live (Row.data 86 (yy0.prod (Ty.bool.prod yy0.sl)) S), Slot.live (Row.data 104 (yy0.prod yy0) A), Slot.live (Row.data 104 (yy0.prod yy0) E)]))
theorem e77_20 (S : List (Int × Bool × List Int)) (s : Int) (cells : List Int) (r : D × List (Option Row) × List Row) (hs : 0 ≤ s ∧ s ≤ 600) (hl : cells.length ≤ 300) (m : Nat) :
    ∀ (k : Int) (A E : List (Int × Int)), 0 ≤ k → k + m = cells.length → (∀ c ∈ cells, 0 ≤ c ∧ c < (A.length : Int)) →
    GetsK Try.prog Try.f77.results.toList [none, none] (KK q77) 0 r 1 (stOf 63 [4,32,33,34] [.ptr 0 0 0, .own 1 0 S.length none, .v (.int .i64 S.length), .v (.int .i64 (s + 1))] [.live (.box 138 [.own 2 0 (layCells s k (cells.drop k.toNat) A).length none, .own 3 0 E.length none]), .live (.data 86 SlT S), .live (.data 104 SeT (layCells s k (cells.drop k.toNat) A)), .live (.data 104 SeT E)]) → GetsK Try.prog Try.f77.results.toList [none, none] (KK q77) 0 r 2 (stOf 63 [4,5,7,32,33,34,42,43,44] [.ptr 0 0 0, .v (.int .i64 s), .v (.int .i64 0), .own 1 0 S.length none, .v (.int .i64 S.length), .v (.int .i64 s), .sl false false (.int .i64) cells, .v (.int .i64 cells.length), .v (.int .i64 k)] [.live (.box 138 [.own 2 0 A.length none, .own 3 0 E.length none]), .live (.data 86 SlT S), .live (.data 104 SeT A), .live (.data 104 SeT E)]) := by
  induction m with
  | zero =>
    intro k A E k0 km hc cont
    rw [List.drop_eq_nil_of_le (by omega)] at cont
    simp only [layCells] at cont
    refine gets_vc spSe (fun k => [[1,4,15,16],[4,32,33,34],[4,5,7,32,33,34,42,43,44]].getD k []) (fun k => if k = 99 then [⟨2, 104, SeT⟩, ⟨3, 104, SeT⟩] else []) 400 (.fork (.hd 2) (.hd 1)) (V := vq28 S s cells k A E) hmG (fun G R => by kernel_rfl) ?_
    unfold vq28
    try dsimp only
    simp (disch := omega) only [wrG, sameK_iff, true_and, and_true, decide_eq_true_eq, decide_eq_false_iff_not, ne_eq, not_false_eq_true, Bool.false_eq_true, Bool.true_eq_false, false_implies, true_implies, Ty.dflt, reduceCtorEq, beq_iff_eq, bne_iff_ne, beq_eq_false_iff_ne, bne_eq_false_iff_eq, Bool.not_eq_true, Bool.not_eq_eq_eq_not, Bool.not_true, Bool.not_false, gt_iff_lt, ge_iff_le, Int.not_lt, Int.not_le]
    repeat' (first | with_reducible refine And.intro ?_ ?_ | intro _)
    all_goals first | rfl | omega | assumption | trivial | exact room104 (by omega) | (exfalso; simp_all; done) | skip
  | succ m ih =>
    intro k A E k0 km hc cont
    have hd := drop_at (xs := cells) (i := k) (0 : Int) k0 (by omega)
    have hm : cells.getD k.toNat 0 ∈ cells := List.mem_of_mem_drop (i := k.toNat) (by rw [hd]; exact List.mem_cons_self)
    have hcc := hc _ hm
    rw [hd] at cont
    simp only [layCells] at cont
    have hx := ih (k + 1) (A.set (cells.getD k.toNat 0).toNat (s, k)) E (by omega) (by omega) (by rw [List.length_set]; exact hc) cont
    rw [List.length_set] at hx
    refine gets_vc spSe (fun k => [[1,4,15,16],[4,32,33,34],[4,5,7,32,33,34,42,43,44]].getD k []) (fun k => if k = 99 then [⟨2, 104, SeT⟩, ⟨3, 104, SeT⟩] else []) 400 (.fork (.hd 2) (.hd 1)) (V := vq28 S s cells k A E) hmG (fun G R => by kernel_rfl) ?_
    unfold vq28
    try dsimp only
    simp only [Ty.dflt, Nat.zero_add]
    simp (disch := omega) only [wrG, sameK_iff, true_and, and_true, decide_eq_true_eq, decide_eq_false_iff_not, ne_eq, not_false_eq_true, Bool.false_eq_true, Bool.true_eq_false, false_implies, true_implies, Ty.dflt, reduceCtorEq, beq_iff_eq, bne_iff_ne, beq_eq_false_iff_ne, bne_eq_false_iff_eq, Bool.not_eq_true, Bool.not_eq_eq_eq_not, Bool.not_true, Bool.not_false, gt_iff_lt, ge_iff_le, Int.not_lt, Int.not_le]
    repeat' (first | with_reducible refine And.intro ?_ ?_ | intro _)
    all_goals first | rfl | omega | assumption | trivial | exact room104 (by omega) | (exfalso; simp_all; done) | skip
def vq29 (S : List (Int × Bool × List Int)) (s : Int) (cells : List Int) (k : Int) (A : List (Int × Int)) (E : List (Int × Int)) (G : Nat → St → Prop) (R : D × List (Option Row) × List Row → Prop) : Prop := let yy0 := (Ty.int IntKind.i64); (decide (k < (↑cells.length : Int)) = true → (0 : Int) ≤ k ∧ k < (↑cells.length : Int) ∧ (0 : Int) ≤ (1 : Int) ∧ (1 : Int) < (↑2 : Int) ∧ (0 : Int) ≤ cells.getD k.toNat yy0.dflt ∧ cells.getD k.toNat yy0.dflt < (↑E.length : Int) ∧ 0 + Int.toNat (cells.getD k.toNat yy0.dflt) < E.length ∧ SameK (KK q77 2) (KK q77 2) ∧ G 2 (stOf 63 [4, 5, 7, 32, 33, 34, 42, 43, 44] [D.ptr 0 0 0, D.v (Value.int IntKind.i64 s), D.v (Value.int IntKind.i64 (1 : Int)), D.own 1 0 S.length none, D.v (Value.int IntKind.i64 (↑S.length : Int)), D.v (Value.int IntKind.i64 s), D.sl false false yy0 cells, D.v (Value.int IntKind.i64 (↑cells.length : Int)), D.v (Value.int IntKind.i64 (IntKind.i64.wrap (k + (1 : Int))))] [Slot.live (Row.box 138 [D.own 2 0 A.length none, D.own 3 0 E.length none]), Slot.live (Row.data 86 (yy0.prod (Ty.bool.prod yy0.sl)) S), Slot.live (Row.data 104 (yy0.prod yy0) A), Slot.live (Row.data 104 (yy0.prod yy0) (E.set (0 + Int.toNat (cells.getD k.toNat yy0.dflt)) (s, k)))])) ∧ (decide (k < (↑cells.length : Int)) = false → SameK (KK q77 1) (KK q77 1) ∧ G 1 (stOf 63 [4, 32, 33, 34] [D.ptr 0 0 0, D.own 1 0 S.length none, D.v (Value.int IntKind.i64 (↑S.length : Int)), D.v (Value.int IntKind.i64 (IntKind.i64.wrap (s + (1 : Int))))] [Slot.live (Row.box 138 [D.own 2 0 A.length none, D.own 3 0 E.length none]), Slot.live (Row.data 86 (yy0.prod (Ty.bool.prod yy0.sl)) S), Slot.live (Row.data 104 (yy0.prod yy0) A), Slot.live (Row.data 104 (yy0.prod yy0) E)]))
theorem e77_21 (S : List (Int × Bool × List Int)) (s : Int) (cells : List Int) (r : D × List (Option Row) × List Row) (hs : 0 ≤ s ∧ s ≤ 600) (hl : cells.length ≤ 300) (m : Nat) :
    ∀ (k : Int) (A E : List (Int × Int)), 0 ≤ k → k + m = cells.length → (∀ c ∈ cells, 0 ≤ c ∧ c < (E.length : Int)) →
    GetsK Try.prog Try.f77.results.toList [none, none] (KK q77) 0 r 1 (stOf 63 [4,32,33,34] [.ptr 0 0 0, .own 1 0 S.length none, .v (.int .i64 S.length), .v (.int .i64 (s + 1))] [.live (.box 138 [.own 2 0 A.length none, .own 3 0 (layCells s k (cells.drop k.toNat) E).length none]), .live (.data 86 SlT S), .live (.data 104 SeT A), .live (.data 104 SeT (layCells s k (cells.drop k.toNat) E))]) → GetsK Try.prog Try.f77.results.toList [none, none] (KK q77) 0 r 2 (stOf 63 [4,5,7,32,33,34,42,43,44] [.ptr 0 0 0, .v (.int .i64 s), .v (.int .i64 1), .own 1 0 S.length none, .v (.int .i64 S.length), .v (.int .i64 s), .sl false false (.int .i64) cells, .v (.int .i64 cells.length), .v (.int .i64 k)] [.live (.box 138 [.own 2 0 A.length none, .own 3 0 E.length none]), .live (.data 86 SlT S), .live (.data 104 SeT A), .live (.data 104 SeT E)]) := by
  induction m with
  | zero =>
    intro k A E k0 km hc cont
    rw [List.drop_eq_nil_of_le (by omega)] at cont
    simp only [layCells] at cont
    refine gets_vc spSe (fun k => [[1,4,15,16],[4,32,33,34],[4,5,7,32,33,34,42,43,44]].getD k []) (fun k => if k = 99 then [⟨2, 104, SeT⟩, ⟨3, 104, SeT⟩] else []) 400 (.fork (.hd 2) (.hd 1)) (V := vq29 S s cells k A E) hmG (fun G R => by kernel_rfl) ?_
    unfold vq29
    try dsimp only
    simp (disch := omega) only [wrG, sameK_iff, true_and, and_true, decide_eq_true_eq, decide_eq_false_iff_not, ne_eq, not_false_eq_true, Bool.false_eq_true, Bool.true_eq_false, false_implies, true_implies, Ty.dflt, reduceCtorEq, beq_iff_eq, bne_iff_ne, beq_eq_false_iff_ne, bne_eq_false_iff_eq, Bool.not_eq_true, Bool.not_eq_eq_eq_not, Bool.not_true, Bool.not_false, gt_iff_lt, ge_iff_le, Int.not_lt, Int.not_le]
    repeat' (first | with_reducible refine And.intro ?_ ?_ | intro _)
    all_goals first | rfl | omega | assumption | trivial | exact room104 (by omega) | (exfalso; simp_all; done) | skip
  | succ m ih =>
    intro k A E k0 km hc cont
    have hd := drop_at (xs := cells) (i := k) (0 : Int) k0 (by omega)
    have hm : cells.getD k.toNat 0 ∈ cells := List.mem_of_mem_drop (i := k.toNat) (by rw [hd]; exact List.mem_cons_self)
    have hcc := hc _ hm
    rw [hd] at cont
    simp only [layCells] at cont
    have hx := ih (k + 1) A (E.set (cells.getD k.toNat 0).toNat (s, k)) (by omega) (by omega) (by rw [List.length_set]; exact hc) cont
    rw [List.length_set] at hx
    refine gets_vc spSe (fun k => [[1,4,15,16],[4,32,33,34],[4,5,7,32,33,34,42,43,44]].getD k []) (fun k => if k = 99 then [⟨2, 104, SeT⟩, ⟨3, 104, SeT⟩] else []) 400 (.fork (.hd 2) (.hd 1)) (V := vq29 S s cells k A E) hmG (fun G R => by kernel_rfl) ?_
    unfold vq29
    try dsimp only
    simp only [Ty.dflt, Nat.zero_add]
    simp (disch := omega) only [wrG, sameK_iff, true_and, and_true, decide_eq_true_eq, decide_eq_false_iff_not, ne_eq, not_false_eq_true, Bool.false_eq_true, Bool.true_eq_false, false_implies, true_implies, Ty.dflt, reduceCtorEq, beq_iff_eq, bne_iff_ne, beq_eq_false_iff_ne, bne_eq_false_iff_eq, Bool.not_eq_true, Bool.not_eq_eq_eq_not, Bool.not_true, Bool.not_false, gt_iff_lt, ge_iff_le, Int.not_lt, Int.not_le]
    repeat' (first | with_reducible refine And.intro ?_ ?_ | intro _)
    all_goals first | rfl | omega | assumption | trivial | exact room104 (by omega) | (exfalso; simp_all; done) | skip
def vq30 (S : List (Int × Bool × List Int)) (s : Int) (A : List (Int × Int)) (E : List (Int × Int)) (G : Nat → St → Prop) (R : D × List (Option Row) × List Row → Prop) : Prop := let yy0 := (Ty.int IntKind.i64); let yy1 := (S.getD (0 + s.toNat) (yy0.prod (Ty.bool.prod yy0.sl)).dflt); (decide (s < (↑S.length : Int)) = true → (0 : Int) ≤ s ∧ s < (↑S.length : Int) ∧ 0 + s.toNat < S.length ∧ (yy1.snd.fst = true → SameK (KK q77 2) (KK q77 2) ∧ G 2 (stOf 63 [4, 5, 7, 32, 33, 34, 42, 43, 44] [D.ptr 0 0 0, D.v (Value.int IntKind.i64 s), D.v (Value.int IntKind.i64 (1 : Int)), D.own 1 0 S.length none, D.v (Value.int IntKind.i64 (↑S.length : Int)), D.v (Value.int IntKind.i64 s), D.sl false false yy0 yy1.snd.snd, D.v (Value.int IntKind.i64 (↑(List.length yy1.snd.snd) : Int)), D.v (Value.int IntKind.i64 (0 : Int))] [Slot.live (Row.box 138 [D.own 2 0 A.length none, D.own 3 0 E.length none]), Slot.live (Row.data 86 (yy0.prod (Ty.bool.prod yy0.sl)) S), Slot.live (Row.data 104 (yy0.prod yy0) A), Slot.live (Row.data 104 (yy0.prod yy0) E)])) ∧ (yy1.snd.fst = false → SameK (KK q77 2) (KK q77 2) ∧ G 2 (stOf 63 [4, 5, 7, 32, 33, 34, 42, 43, 44] [D.ptr 0 0 0, D.v (Value.int IntKind.i64 s), D.v (Value.int IntKind.i64 (0 : Int)), D.own 1 0 S.length none, D.v (Value.int IntKind.i64 (↑S.length : Int)), D.v (Value.int IntKind.i64 s), D.sl false false yy0 yy1.snd.snd, D.v (Value.int IntKind.i64 (↑(List.length yy1.snd.snd) : Int)), D.v (Value.int IntKind.i64 (0 : Int))] [Slot.live (Row.box 138 [D.own 2 0 A.length none, D.own 3 0 E.length none]), Slot.live (Row.data 86 (yy0.prod (Ty.bool.prod yy0.sl)) S), Slot.live (Row.data 104 (yy0.prod yy0) A), Slot.live (Row.data 104 (yy0.prod yy0) E)]))) ∧ (decide (s < (↑S.length : Int)) = false → (0 : Int) ≤ (0 : Int) ∧ (0 : Int) < (↑2 : Int) ∧ (0 : Int) ≤ (1 : Int) ∧ (1 : Int) < (↑2 : Int) ∧ R (D.tup [D.own 0 0 A.length none, D.own 1 0 E.length none], [], [Row.data 104 (yy0.prod yy0) A, Row.data 104 (yy0.prod yy0) E]))
theorem e77_1 (S : List (Int × Bool × List Int)) (N : Nat) (r : D × List (Option Row) × List Row) (hS : S.length ≤ 600) (hc : ∀ x ∈ S, x.2.2.length ≤ 257 ∧ ∀ c ∈ x.2.2, 0 ≤ c ∧ c < (N : Int)) (m : Nat) : ∀ (s : Int) (A E : List (Int × Int)), 0 ≤ s → s + m = S.length → A.length = N → E.length = N →
    r = (.tup [.own 0 0 (laySlots s (S.drop s.toNat) A E).1.length none, .own 1 0 (laySlots s (S.drop s.toNat) A E).2.length none], [], [.data 104 SeT (laySlots s (S.drop s.toNat) A E).1, .data 104 SeT (laySlots s (S.drop s.toNat) A E).2]) → GetsK Try.prog Try.f77.results.toList [none, none] (KK q77) 0 r 1 (stOf 63 [4,32,33,34] [.ptr 0 0 0, .own 1 0 S.length none, .v (.int .i64 S.length), .v (.int .i64 s)] [.live (.box 138 [.own 2 0 A.length none, .own 3 0 E.length none]), .live (.data 86 SlT S), .live (.data 104 SeT A), .live (.data 104 SeT E)]) := by
  induction m with
  | zero =>
    intro s A E s0 sm la le hr
    rw [List.drop_eq_nil_of_le (by omega)] at hr
    simp only [laySlots] at hr
    subst hr
    refine gets_vc spSe (fun k => [[1,4,15,16],[4,32,33,34],[4,5,7,32,33,34,42,43,44]].getD k []) (fun k => if k = 99 then [⟨2, 104, SeT⟩, ⟨3, 104, SeT⟩] else []) 400 (.fork (.fork (.hd 2) (.hd 2)) .stop) (V := vq30 S s A E) hmG (fun G R => by kernel_rfl) ?_
    unfold vq30
    try dsimp only
    simp (disch := omega) only [wrG, sameK_iff, true_and, and_true, decide_eq_true_eq, decide_eq_false_iff_not, ne_eq, not_false_eq_true, Bool.false_eq_true, Bool.true_eq_false, false_implies, true_implies, Ty.dflt, reduceCtorEq, beq_iff_eq, bne_iff_ne, beq_eq_false_iff_ne, bne_eq_false_iff_eq, Bool.not_eq_true, Bool.not_eq_eq_eq_not, Bool.not_true, Bool.not_false, gt_iff_lt, ge_iff_le, Int.not_lt, Int.not_le]
    repeat' (first | with_reducible refine And.intro ?_ ?_ | intro _)
    all_goals first | rfl | omega | assumption | trivial | exact room104 (by omega) | (exfalso; simp_all; done) | skip
  | succ m ih =>
    intro s A E s0 sm la le hr
    have hd := drop_at (xs := S) (i := s) (Ty.dflt (.prod (.int .i64) (.prod .bool (.sl (.int .i64))))) s0 (by omega)
    have hm : S.getD s.toNat (Ty.dflt (.prod (.int .i64) (.prod .bool (.sl (.int .i64))))) ∈ S := List.mem_of_mem_drop (i := s.toNat) (by rw [hd]; exact List.mem_cons_self)
    have hx := hc _ hm
    rw [hd] at hr
    refine gets_vc spSe (fun k => [[1,4,15,16],[4,32,33,34],[4,5,7,32,33,34,42,43,44]].getD k []) (fun k => if k = 99 then [⟨2, 104, SeT⟩, ⟨3, 104, SeT⟩] else []) 400 (.fork (.fork (.hd 2) (.hd 2)) .stop) (V := vq30 S s A E) hmG (fun G R => by kernel_rfl) ?_
    unfold vq30
    try dsimp only
    simp only [Nat.zero_add]
    generalize S.getD s.toNat (Ty.dflt (.prod (.int .i64) (.prod .bool (.sl (.int .i64))))) = z at *
    obtain ⟨num, down, cells⟩ := z
    simp only at hx
    simp only [laySlots] at hr
    cases down
    · simp only [Bool.false_eq_true, if_false] at hr
      have hy := ih (s + 1) (layCells s 0 cells A) E (by omega) (by omega) (by rw [lay_len]; exact la) le hr
      have hz := e77_20 S s cells r ⟨s0, by omega⟩ (by omega) cells.length 0 A E (by omega) (by omega) (by rw [la]; exact hx.2) (by simpa using hy)
      simp (disch := omega) only [wrG, sameK_iff, true_and, and_true, decide_eq_true_eq, decide_eq_false_iff_not, ne_eq, not_false_eq_true, Bool.false_eq_true, Bool.true_eq_false, false_implies, true_implies, Ty.dflt, reduceCtorEq, beq_iff_eq, bne_iff_ne, beq_eq_false_iff_ne, bne_eq_false_iff_eq, Bool.not_eq_true, Bool.not_eq_eq_eq_not, Bool.not_true, Bool.not_false, gt_iff_lt, ge_iff_le, Int.not_lt, Int.not_le]
      repeat' (first | with_reducible refine And.intro ?_ ?_ | intro _)
      all_goals first | rfl | omega | assumption | trivial | exact room104 (by omega) | (exfalso; simp_all; done) | skip
    · simp only [if_true] at hr
      have hy := ih (s + 1) A (layCells s 0 cells E) (by omega) (by omega) la (by rw [lay_len]; exact le) hr
      have hz := e77_21 S s cells r ⟨s0, by omega⟩ (by omega) cells.length 0 A E (by omega) (by omega) (by rw [le]; exact hx.2) (by simpa using hy)
      simp (disch := omega) only [wrG, sameK_iff, true_and, and_true, decide_eq_true_eq, decide_eq_false_iff_not, ne_eq, not_false_eq_true, Bool.false_eq_true, Bool.true_eq_false, false_implies, true_implies, Ty.dflt, reduceCtorEq, beq_iff_eq, bne_iff_ne, beq_eq_false_iff_ne, bne_eq_false_iff_eq, Bool.not_eq_true, Bool.not_eq_eq_eq_not, Bool.not_true, Bool.not_false, gt_iff_lt, ge_iff_le, Int.not_lt, Int.not_le]
      repeat' (first | with_reducible refine And.intro ?_ ?_ | intro _)
      all_goals first | rfl | omega | assumption | trivial | exact room104 (by omega) | (exfalso; simp_all; done) | skip
theorem e77_n (g : Gr) (n : Nat) (r : D × List (Option Row) × List Row) (hn : 0 < n ∧ n ≤ 256) (fin : GetsK Try.prog Try.f77.results.toList [none, none] (KK q77) 0 r 0 (stOf 63 [1,4,15,16] [.ptr 0 0 0, .ptr 1 0 0, .v (.int .i64 n), .v (.int .i64 1)] [.live (.box 35 [.v (.int .i64 g.h), .v (.int .i64 g.w), .sl false false .bool g.B, .sl false false .bool g.R, .sl false false .bool g.L]), .live (.box 138 [.own 2 0 (List.replicate (1 : Int).toNat ((-1 : Int), (0 : Int))).length none, .own 3 0 (List.replicate (1 : Int).toNat ((-1 : Int), (0 : Int))).length none]), .live (.data 104 SeT (List.replicate (1 : Int).toNat ((-1 : Int), (0 : Int)))), .live (.data 104 SeT (List.replicate (1 : Int).toNat ((-1 : Int), (0 : Int))))])) : GetsK Try.prog Try.f77.results.toList [none, none] (KK q77) 0 r 0 (stOf 63 [1,4,15,16] [.ptr 0 0 0, .ptr 1 0 0, .v (.int .i64 n), .v (.int .i64 0)] [.live (.box 35 [.v (.int .i64 g.h), .v (.int .i64 g.w), .sl false false .bool g.B, .sl false false .bool g.R, .sl false false .bool g.L]), .live (.box 138 [.v (.slice none 0 0), .v (.slice none 0 0)])]) := by
  refine gets_vc spSe (fun k => [[1,4,15,16],[4,32,33,34],[4,5,7,32,33,34,42,43,44]].getD k []) (fun k => if k = 99 then [⟨2, 104, SeT⟩, ⟨3, 104, SeT⟩] else []) 400 (.fork (.hd 0) (.hd 1)) (V := fun G R => let yy0 := (Ty.int IntKind.i64); let yy1 := (Row.data 104 (yy0.prod yy0) (List.take 1 (List.drop 0 [((-1 : Int), (0 : Int))]))); (decide ((0 : Int) < (↑n : Int)) = true → (0 : Int) ≤ (0 : Int) ∧ (0 : Int) < (↑2 : Int) ∧ roomy Try.prog 104 1 ∧ (0 : Int) ≤ (0 : Int) ∧ (0 : Int) < (↑2 : Int) ∧ (0 : Int) ≤ (1 : Int) ∧ (1 : Int) < (↑2 : Int) ∧ roomy Try.prog 104 1 ∧ (0 : Int) ≤ (1 : Int) ∧ (1 : Int) < (↑2 : Int) ∧ SameK (KK q77 0) (KK q77 0) ∧ G 0 (stOf 63 [1, 4, 15, 16] [D.ptr 0 0 0, D.ptr 1 0 0, D.v (Value.int IntKind.i64 (↑n : Int)), D.v (Value.int IntKind.i64 (IntKind.i64.wrap ((0 : Int) + (1 : Int))))] [Slot.live (Row.box 35 [D.v (Value.int IntKind.i64 g.h), D.v (Value.int IntKind.i64 g.w), D.sl false false Ty.bool g.B, D.sl false false Ty.bool g.R, D.sl false false Ty.bool g.L]), Slot.live (Row.box 138 [D.own 2 0 1 none, D.own 3 0 1 none]), Slot.live yy1, Slot.live yy1])) ∧ (decide ((0 : Int) < (↑n : Int)) = false → Con Try.prog 65 [] [D.agg [D.v (Value.int IntKind.i64 g.h), D.v (Value.int IntKind.i64 g.w), D.sl false false Ty.bool g.B, D.sl false false Ty.bool g.R, D.sl false false Ty.bool g.L]] (D.own 0 0 (slotsF g).length none) [] [Row.data 86 (yy0.prod (Ty.bool.prod yy0.sl)) (slotsF g)] ∧ Value.int IntKind.i64 g.h = Value.int IntKind.i64 g.h ∧ Value.int IntKind.i64 g.w = Value.int IntKind.i64 g.w ∧ g.B = g.B ∧ g.R = g.R ∧ g.L = g.L ∧ SameK (KK q77 1) (KK q77 1) ∧ G 1 (stOf 63 [4, 32, 33, 34] [D.ptr 0 0 0, D.own 1 0 (slotsF g).length none, D.v (Value.int IntKind.i64 (↑(slotsF g).length : Int)), D.v (Value.int IntKind.i64 (0 : Int))] [Slot.live (Row.box 138 [D.v (Value.slice none 0 0), D.v (Value.slice none 0 0)]), Slot.live (Row.data 86 (yy0.prod (Ty.bool.prod yy0.sl)) (slotsF g))]))) hmG (fun G R => by kernel_rfl) ?_
  try dsimp only
  have fin : GetsK Try.prog Try.f77.results.toList [none, none] (KK q77) 0 r 0 (stOf 63 [1,4,15,16] [.ptr 0 0 0, .ptr 1 0 0, .v (.int .i64 n), .v (.int .i64 1)] [.live (.box 35 [.v (.int .i64 g.h), .v (.int .i64 g.w), .sl false false .bool g.B, .sl false false .bool g.R, .sl false false .bool g.L]), .live (.box 138 [.own 2 0 [((-1 : Int), (0 : Int))].length none, .own 3 0 [((-1 : Int), (0 : Int))].length none]), .live (.data 104 SeT [((-1 : Int), (0 : Int))]), .live (.data 104 SeT [((-1 : Int), (0 : Int))])]) := fin
  simp (disch := omega) only [wrG, sameK_iff, true_and, and_true, decide_eq_true_eq, decide_eq_false_iff_not, ne_eq, not_false_eq_true, Bool.false_eq_true, Bool.true_eq_false, false_implies, true_implies, Ty.dflt, reduceCtorEq, beq_iff_eq, bne_iff_ne, beq_eq_false_iff_ne, bne_eq_false_iff_eq, Bool.not_eq_true, Bool.not_eq_eq_eq_not, Bool.not_true, Bool.not_false, gt_iff_lt, ge_iff_le, Int.not_lt, Int.not_le]
  repeat' (first | with_reducible refine And.intro ?_ ?_ | intro _)
  all_goals first | rfl | omega | assumption | trivial | exact room104 (by omega) | (exfalso; simp_all; done) | skip
theorem e77_0 (g : Gr) (n : Nat) (r : D × List (Option Row) × List Row) (hn : n ≤ 256) (fin : Con Try.prog 65 [] [g.d] (.own 0 0 (slotsF g).length none) [] [.data 86 SlT (slotsF g)] ∧ GetsK Try.prog Try.f77.results.toList [none, none] (KK q77) 0 r 1 (stOf 63 [4,32,33,34] [.ptr 0 0 0, .own 1 0 (slotsF g).length none, .v (.int .i64 (slotsF g).length), .v (.int .i64 0)] [.live (.box 138 [.own 2 0 (List.replicate n ((-1 : Int), (0 : Int))).length none, .own 3 0 (List.replicate n ((-1 : Int), (0 : Int))).length none]), .live (.data 86 SlT (slotsF g)), .live (.data 104 SeT (List.replicate n ((-1 : Int), (0 : Int)))), .live (.data 104 SeT (List.replicate n ((-1 : Int), (0 : Int))))])) (m : Nat) : ∀ (i : Int), 0 < i → i + m = n → GetsK Try.prog Try.f77.results.toList [none, none] (KK q77) 0 r 0 (stOf 63 [1,4,15,16] [.ptr 0 0 0, .ptr 1 0 0, .v (.int .i64 n), .v (.int .i64 i)] [.live (.box 35 [.v (.int .i64 g.h), .v (.int .i64 g.w), .sl false false .bool g.B, .sl false false .bool g.R, .sl false false .bool g.L]), .live (.box 138 [.own 2 0 (List.replicate i.toNat ((-1 : Int), (0 : Int))).length none, .own 3 0 (List.replicate i.toNat ((-1 : Int), (0 : Int))).length none]), .live (.data 104 SeT (List.replicate i.toNat ((-1 : Int), (0 : Int)))), .live (.data 104 SeT (List.replicate i.toNat ((-1 : Int), (0 : Int))))]) := by
  induction m with
  | zero =>
    intro i i0 im
    have e : i.toNat = n := by omega
    generalize hA : List.replicate i.toNat ((-1 : Int), (0 : Int)) = A
    refine gets_vc spSe (fun k => [[1,4,15,16],[4,32,33,34],[4,5,7,32,33,34,42,43,44]].getD k []) (fun k => if k = 99 then [⟨2, 104, SeT⟩, ⟨3, 104, SeT⟩] else []) 400 (.fork (.hd 0) (.hd 1)) (V := fun G R => let yy0 := (Ty.int IntKind.i64); let yy1 := (Row.data 104 (yy0.prod yy0) (List.take A.length (List.drop 0 A) ++ List.take 1 (List.drop 0 [((-1 : Int), (0 : Int))]))); (decide (i < (↑n : Int)) = true → (0 : Int) ≤ (0 : Int) ∧ (0 : Int) < (↑2 : Int) ∧ roomy Try.prog 104 (A.length + 1) ∧ (0 : Int) ≤ (0 : Int) ∧ (0 : Int) < (↑2 : Int) ∧ (0 : Int) ≤ (1 : Int) ∧ (1 : Int) < (↑2 : Int) ∧ roomy Try.prog 104 (A.length + 1) ∧ (0 : Int) ≤ (1 : Int) ∧ (1 : Int) < (↑2 : Int) ∧ SameK (KK q77 0) (KK q77 0) ∧ G 0 (stOf 63 [1, 4, 15, 16] [D.ptr 0 0 0, D.ptr 1 0 0, D.v (Value.int IntKind.i64 (↑n : Int)), D.v (Value.int IntKind.i64 (IntKind.i64.wrap (i + (1 : Int))))] [Slot.live (Row.box 35 [D.v (Value.int IntKind.i64 g.h), D.v (Value.int IntKind.i64 g.w), D.sl false false Ty.bool g.B, D.sl false false Ty.bool g.R, D.sl false false Ty.bool g.L]), Slot.live (Row.box 138 [D.own 2 0 (A.length + 1) none, D.own 3 0 (A.length + 1) none]), Slot.live yy1, Slot.live yy1])) ∧ (decide (i < (↑n : Int)) = false → Con Try.prog 65 [] [D.agg [D.v (Value.int IntKind.i64 g.h), D.v (Value.int IntKind.i64 g.w), D.sl false false Ty.bool g.B, D.sl false false Ty.bool g.R, D.sl false false Ty.bool g.L]] (D.own 0 0 (slotsF g).length none) [] [Row.data 86 (yy0.prod (Ty.bool.prod yy0.sl)) (slotsF g)] ∧ Value.int IntKind.i64 g.h = Value.int IntKind.i64 g.h ∧ Value.int IntKind.i64 g.w = Value.int IntKind.i64 g.w ∧ g.B = g.B ∧ g.R = g.R ∧ g.L = g.L ∧ SameK (KK q77 1) (KK q77 1) ∧ G 1 (stOf 63 [4, 32, 33, 34] [D.ptr 0 0 0, D.own 1 0 (slotsF g).length none, D.v (Value.int IntKind.i64 (↑(slotsF g).length : Int)), D.v (Value.int IntKind.i64 (0 : Int))] [Slot.live (Row.box 138 [D.own 2 0 A.length none, D.own 3 0 A.length none]), Slot.live (Row.data 86 (yy0.prod (Ty.bool.prod yy0.sl)) (slotsF g)), Slot.live (Row.data 104 (yy0.prod yy0) A), Slot.live (Row.data 104 (yy0.prod yy0) A)]))) hmG (fun G R => by kernel_rfl) ?_
    try dsimp only
    subst hA
    rw [e]
    obtain ⟨fin1, fin2⟩ := fin
    simp (disch := omega) only [take_len, wrG, sameK_iff, true_and, and_true, decide_eq_true_eq, decide_eq_false_iff_not, ne_eq, not_false_eq_true, Bool.false_eq_true, Bool.true_eq_false, false_implies, true_implies, Ty.dflt, reduceCtorEq, beq_iff_eq, bne_iff_ne, beq_eq_false_iff_ne, bne_eq_false_iff_eq, Bool.not_eq_true, Bool.not_eq_eq_eq_not, Bool.not_true, Bool.not_false, gt_iff_lt, ge_iff_le, Int.not_lt, Int.not_le]
    repeat' (first | with_reducible refine And.intro ?_ ?_ | intro _)
    all_goals first | rfl | omega | assumption | trivial | exact room104 (by omega) | (exfalso; simp_all; done) | skip
  | succ m ih =>
    intro i i0 im
    generalize hA : List.replicate i.toNat ((-1 : Int), (0 : Int)) = A
    refine gets_vc spSe (fun k => [[1,4,15,16],[4,32,33,34],[4,5,7,32,33,34,42,43,44]].getD k []) (fun k => if k = 99 then [⟨2, 104, SeT⟩, ⟨3, 104, SeT⟩] else []) 400 (.fork (.hd 0) (.hd 1)) (V := fun G R => let yy0 := (Ty.int IntKind.i64); let yy1 := (Row.data 104 (yy0.prod yy0) (List.take A.length (List.drop 0 A) ++ List.take 1 (List.drop 0 [((-1 : Int), (0 : Int))]))); (decide (i < (↑n : Int)) = true → (0 : Int) ≤ (0 : Int) ∧ (0 : Int) < (↑2 : Int) ∧ roomy Try.prog 104 (A.length + 1) ∧ (0 : Int) ≤ (0 : Int) ∧ (0 : Int) < (↑2 : Int) ∧ (0 : Int) ≤ (1 : Int) ∧ (1 : Int) < (↑2 : Int) ∧ roomy Try.prog 104 (A.length + 1) ∧ (0 : Int) ≤ (1 : Int) ∧ (1 : Int) < (↑2 : Int) ∧ SameK (KK q77 0) (KK q77 0) ∧ G 0 (stOf 63 [1, 4, 15, 16] [D.ptr 0 0 0, D.ptr 1 0 0, D.v (Value.int IntKind.i64 (↑n : Int)), D.v (Value.int IntKind.i64 (IntKind.i64.wrap (i + (1 : Int))))] [Slot.live (Row.box 35 [D.v (Value.int IntKind.i64 g.h), D.v (Value.int IntKind.i64 g.w), D.sl false false Ty.bool g.B, D.sl false false Ty.bool g.R, D.sl false false Ty.bool g.L]), Slot.live (Row.box 138 [D.own 2 0 (A.length + 1) none, D.own 3 0 (A.length + 1) none]), Slot.live yy1, Slot.live yy1])) ∧ (decide (i < (↑n : Int)) = false → Con Try.prog 65 [] [D.agg [D.v (Value.int IntKind.i64 g.h), D.v (Value.int IntKind.i64 g.w), D.sl false false Ty.bool g.B, D.sl false false Ty.bool g.R, D.sl false false Ty.bool g.L]] (D.own 0 0 (slotsF g).length none) [] [Row.data 86 (yy0.prod (Ty.bool.prod yy0.sl)) (slotsF g)] ∧ Value.int IntKind.i64 g.h = Value.int IntKind.i64 g.h ∧ Value.int IntKind.i64 g.w = Value.int IntKind.i64 g.w ∧ g.B = g.B ∧ g.R = g.R ∧ g.L = g.L ∧ SameK (KK q77 1) (KK q77 1) ∧ G 1 (stOf 63 [4, 32, 33, 34] [D.ptr 0 0 0, D.own 1 0 (slotsF g).length none, D.v (Value.int IntKind.i64 (↑(slotsF g).length : Int)), D.v (Value.int IntKind.i64 (0 : Int))] [Slot.live (Row.box 138 [D.own 2 0 A.length none, D.own 3 0 A.length none]), Slot.live (Row.data 86 (yy0.prod (Ty.bool.prod yy0.sl)) (slotsF g)), Slot.live (Row.data 104 (yy0.prod yy0) A), Slot.live (Row.data 104 (yy0.prod yy0) A)]))) hmG (fun G R => by kernel_rfl) ?_
    try dsimp only
    subst hA
    have hx := ih (i + 1) (by omega) (by omega)
    simp only [show (i + 1).toNat = i.toNat + 1 by omega, List.replicate_succ', List.length_append, List.length_cons, List.length_nil, Nat.zero_add] at hx
    have hl : (List.replicate i.toNat ((-1 : Int), (0 : Int))).length ≤ 256 := by simp; omega
    simp (disch := omega) only [take_len, wrG, sameK_iff, true_and, and_true, decide_eq_true_eq, decide_eq_false_iff_not, ne_eq, not_false_eq_true, Bool.false_eq_true, Bool.true_eq_false, false_implies, true_implies, Ty.dflt, reduceCtorEq, beq_iff_eq, bne_iff_ne, beq_eq_false_iff_ne, bne_eq_false_iff_eq, Bool.not_eq_true, Bool.not_eq_eq_eq_not, Bool.not_true, Bool.not_false, gt_iff_lt, ge_iff_le, Int.not_lt, Int.not_le]
    repeat' (first | with_reducible refine And.intro ?_ ?_ | intro _)
    all_goals first | rfl | omega | assumption | trivial | exact room104 (by omega) | (exfalso; simp_all; done) | skip
theorem d77 (g : Gr)  : Con Try.prog 77 [] [g.d] ((.tup [.own 0 0 (seatsF g).1.length none, .own 1 0 (seatsF g).2.length none])) [] [.data 104 SeT (seatsF g).1, .data 104 SeT (seatsF g).2] := by
  refine con_vc (how := [none, none]) (c := q77) (K := (KK q77)) spSe (fun k => [[1,4,15,16],[4,32,33,34],[4,5,7,32,33,34,42,43,44]].getD k []) (fun k => if k = 99 then [⟨2, 104, SeT⟩, ⟨3, 104, SeT⟩] else []) 400 (.fork .stop (.hd 0)) (V := fun G R => Con Try.prog 43 [] [D.agg [D.v (Value.int IntKind.i64 g.h), D.v (Value.int IntKind.i64 g.w), D.sl false false Ty.bool g.B, D.sl false false Ty.bool g.R, D.sl false false Ty.bool g.L]] (D.v (Value.int IntKind.i64 (checkF g))) [] [] ∧ Value.int IntKind.i64 g.h = Value.int IntKind.i64 g.h ∧ Value.int IntKind.i64 g.w = Value.int IntKind.i64 g.w ∧ g.B = g.B ∧ g.R = g.R ∧ g.L = g.L ∧ ((checkF g != (0 : Int)) = true → R (D.tup [D.own 0 0 0 none, D.own 1 0 0 none], [], [Row.data 104 ((Ty.int IntKind.i64).prod (Ty.int IntKind.i64)) [], Row.data 104 ((Ty.int IntKind.i64).prod (Ty.int IntKind.i64)) []])) ∧ ((checkF g != (0 : Int)) = false → SameK (KK q77 0) (KK q77 0) ∧ G 0 (stOf 63 [1, 4, 15, 16] [D.ptr 0 0 0, D.ptr 1 0 0, D.v (Value.int IntKind.i64 (↑g.B.length : Int)), D.v (Value.int IntKind.i64 (0 : Int))] [Slot.live (Row.box 35 [D.v (Value.int IntKind.i64 g.h), D.v (Value.int IntKind.i64 g.w), D.sl false false Ty.bool g.B, D.sl false false Ty.bool g.R, D.sl false false Ty.bool g.L]), Slot.live (Row.box 138 [D.v (Value.slice none 0 0), D.v (Value.slice none 0 0)])]))) hmG Try.func77 (by kernel_rfl) (by kernel_rfl) (fun G R => by kernel_rfl) ?_
  try dsimp only
  have c := d43 g
  by_cases hc : checkF g = 0
  · have hw := hw_in (chk0.1 hc).1 (chk0.1 hc).2.1
    have sz := size3 (chk0.1 hc).2.2.1
    have e : seatsF g = laySlots 0 (slotsF g) (List.replicate (g.h * g.w).toNat (-1, 0)) (List.replicate (g.h * g.w).toNat (-1, 0)) := if_pos hc
    have es : slotsF g = slotsFrom g (g.h * g.w).toNat 0 0 := if_pos hc
    have hS : (slotsF g).length ≤ 600 := by
      have := sl_len g (g.h * g.w).toNat 0 0
      rw [es]; omega
    have hop : ∀ x ∈ slotsF g, x.2.2.length ≤ 257 ∧ ∀ c ∈ x.2.2, 0 ≤ c ∧ c < ((g.h * g.w).toNat : Int) := by
      intro x hx
      rw [es] at hx
      obtain ⟨h1, h2⟩ := slots_open _ _ _ x hx
      refine ⟨h1, fun c hc => ?_⟩
      have := open_in (h2 c hc)
      omega
    have f1 := e77_1 (slotsF g) (g.h * g.w).toNat _ hS hop (slotsF g).length 0 _ _ (by omega) (by omega) (List.length_replicate (n := (g.h * g.w).toNat) (a := ((-1 : Int), (0 : Int)))) (List.length_replicate (n := (g.h * g.w).toNat) (a := ((-1 : Int), (0 : Int)))) rfl
    simp only [show (0 : Int).toNat = 0 by rfl, List.drop_zero] at f1
    rw [← e] at f1
    have hn : g.B.length = (g.h * g.w).toNat := by omega
    have f0 := e77_0 g (g.h * g.w).toNat _ (by omega) ⟨d65 g, f1⟩ ((g.h * g.w).toNat - 1) 1 (by omega) (by omega)
    have f2 := e77_n g (g.h * g.w).toNat _ (by omega) f0
    rw [hc] at c
    rw [hc, hn]
    simp (disch := omega) only [wrG, sameK_iff, true_and, and_true, decide_eq_true_eq, decide_eq_false_iff_not, ne_eq, not_false_eq_true, Bool.false_eq_true, Bool.true_eq_false, false_implies, true_implies, Ty.dflt, reduceCtorEq, beq_iff_eq, bne_iff_ne, beq_eq_false_iff_ne, bne_eq_false_iff_eq, Bool.not_eq_true, Bool.not_eq_eq_eq_not, Bool.not_true, Bool.not_false, gt_iff_lt, ge_iff_le, Int.not_lt, Int.not_le]
    repeat' (first | with_reducible refine And.intro ?_ ?_ | intro _)
    all_goals first | rfl | assumption | trivial | omega | (exfalso; simp_all; done) | skip
  · have e : seatsF g = ([], []) := if_neg hc
    rw [e]
    simp (disch := omega) only [wrG, sameK_iff, true_and, and_true, decide_eq_true_eq, decide_eq_false_iff_not, ne_eq, not_false_eq_true, Bool.false_eq_true, Bool.true_eq_false, false_implies, true_implies, Ty.dflt, reduceCtorEq, beq_iff_eq, bne_iff_ne, beq_eq_false_iff_ne, bne_eq_false_iff_eq, Bool.not_eq_true, Bool.not_eq_eq_eq_not, Bool.not_true, Bool.not_false, gt_iff_lt, ge_iff_le, Int.not_lt, Int.not_le]
    repeat' (first | with_reducible refine And.intro ?_ ?_ | intro _)
    all_goals first | rfl | assumption | trivial | omega | (exfalso; simp_all; done) | skip
end Go.Proofs.YtnakmganodkliaaAm
set_option maxRecDepth 100000
namespace Go.Proofs.YtnakmganodkliaaAm
open Go
def vq31 (n : Nat) (m : List Nat) (sd : List Bool) (ws : List (List Int)) (s : Int) (ok : Bool) (G : Nat → St → Prop) (R : D × List (Option Row) × List Row → Prop) : Prop := let yy0 := (Row.box 71 [D.v (Value.slice none 0 0), D.v (Value.slice none 0 0), D.v (Value.bool false)]); let yy1 := (NK.mk 46 (Ty.int IntKind.i64).sl 0 3 (Ty.int IntKind.i64)); let yy2 := (Value.int IntKind.i64 (IntKind.i64.wrap (s + (1 : Int)))); let yy3 := (Row.data 80 (Ty.int IntKind.u64) (Mi m)); (decide (s < (↑n : Int)) = true → (ok = true → (0 : Int) ≤ s ∧ s < (↑n : Int) ∧ 0 + s.toNat < sd.length ∧ ((!sd.getD (0 + s.toNat) Ty.bool.dflt) = true → SameK (KK n60 4) (KK n60 4) ∧ G 4 (stOf 119 [2, 6, 7, 12, 13, 15] [D.ptr 0 0 0, D.own 1 0 n none, D.own 2 0 n (some n), D.own 3 0 ws.length none, D.v (Value.bool true), D.v yy2] [Slot.live yy0, Slot.live yy3, Slot.live (Row.data 4 Ty.bool sd), Slot.live (Row.nest yy1 ws none)])) ∧ ((!sd.getD (0 + s.toNat) Ty.bool.dflt) = false → (0 : Int) ≤ s ∧ s < (↑n : Int) ∧ 0 + s.toNat < (Mi m).length ∧ SameK (KK n60 4) (KK n60 4) ∧ G 4 (stOf 119 [2, 6, 7, 12, 13, 15] [D.ptr 0 0 0, D.own 1 0 n none, D.own 2 0 n (some n), D.own 3 0 ws.length none, D.v (Value.bool ((Mi m).getD (0 + s.toNat) (Ty.int IntKind.u64).dflt != (0 : Int))), D.v yy2] [Slot.live yy0, Slot.live yy3, Slot.live (Row.data 4 Ty.bool sd), Slot.live (Row.nest yy1 ws none)]))) ∧ (ok = false → SameK (KK n60 4) (KK n60 4) ∧ G 4 (stOf 119 [2, 6, 7, 12, 13, 15] [D.ptr 0 0 0, D.own 1 0 n none, D.own 2 0 n (some n), D.own 3 0 ws.length none, D.v (Value.bool false), D.v yy2] [Slot.live yy0, Slot.live yy3, Slot.live (Row.data 4 Ty.bool sd), Slot.live (Row.nest yy1 ws none)]))) ∧ (decide (s < (↑n : Int)) = false → R (D.tup [D.agg [D.own 0 0 n none, D.own 1 0 ws.length none, D.v (Value.bool ok)], D.v (Value.int IntKind.i64 (0 : Int))], [], [Row.data 80 (Ty.int IntKind.u64) (Mi m), Row.nest yy1 ws none]))
theorem e60d (g : Gr) (W : List (List Int)) (M : List Nat) (S : List Slt) (n : Nat) (m : List Nat) (sd : List Bool) (ws : List (List Int)) (hm : m.length = n) (hsd : sd.length = n) (hn : n ≤ 300) (z : Nat) : ∀ (s : Int) (ok : Bool), 0 ≤ s → s + z = n → ∀ r, r = (ok && restB sd m z s) → GetsK Try.prog Try.f60.results.toList [none,none] (KK n60) 0 (.tup [.agg [.own 0 0 n none, .own 1 0 ws.length none, .v (.bool r)], .v (.int .i64 0)], [], [.data 80 (.int .u64) (Mi m), .nest kW ws none]) 4 (stOf 119 [2,6,7,12,13,15] [.ptr 0 0 0, .own 1 0 n none, .own 2 0 n (some n), .own 3 0 ws.length none, .v (.bool ok), .v (.int .i64 s)] [.live (.box 71 [.v (.slice none 0 0), .v (.slice none 0 0), .v (.bool false)]), .live (.data 80 (.int .u64) (Mi m)), .live (.data 4 .bool sd), .live (.nest kW ws none)]) := by
  induction z with
  | zero =>
    intro s ok s0 hs r hr
    have hr : r = ok := by rw [hr]; simp [restB]
    rw [hr]
    refine gets_vc (flag [2000089] spNa) (fun k => [[1,2,5,6,7,8],[1,2,5,6,7,8,9],[1,2,5,6,7],[2,6,7,12,13,14],[2,6,7,12,13,15]].getD k []) (fun k => if k = 99 then [⟨2, 80, .int .u64⟩, ⟨4010002, 46, WT⟩] else if k = 2 then [⟨1000000006, 80, .int .u64⟩] else []) 400 (.fork (.fork (.fork (.hd 4) (.hd 4)) (.hd 4)) .stop) (V := vq31 n m sd ws s ok) hmG (fun G R => by kernel_rfl) ?_
    unfold vq31
    try dsimp only
    simp (disch := omega) only [wrG, sameK_iff, true_and, and_true, decide_eq_true_eq, decide_eq_false_iff_not, ne_eq, not_false_eq_true, Bool.false_eq_true, Bool.true_eq_false, false_implies, true_implies, Ty.dflt, reduceCtorEq, beq_iff_eq, bne_iff_ne, beq_eq_false_iff_ne, bne_eq_false_iff_eq, Bool.not_eq_true, Bool.not_eq_eq_eq_not, Bool.not_true, Bool.not_false, gt_iff_lt, ge_iff_le, Int.not_lt, Int.not_le]
    repeat' (first | with_reducible refine And.intro ?_ ?_ | intro _)
    all_goals first | rfl | omega | assumption | trivial | (exfalso; simp_all; done) | (exfalso; omega) | skip
  | succ z ih =>
    intro s ok s0 hs r hr
    have hs1 : IntKind.i64.wrap (s + 1) = s + 1 := wrG (by omega) (by omega)
    have hx := fun ok' => ih (s + 1) ok' (by omega) (by omega)
    simp only [restB] at hr
    refine gets_vc (flag [2000089] spNa) (fun k => [[1,2,5,6,7,8],[1,2,5,6,7,8,9],[1,2,5,6,7],[2,6,7,12,13,14],[2,6,7,12,13,15]].getD k []) (fun k => if k = 99 then [⟨2, 80, .int .u64⟩, ⟨4010002, 46, WT⟩] else if k = 2 then [⟨1000000006, 80, .int .u64⟩] else []) 400 (.fork (.fork (.fork (.hd 4) (.hd 4)) (.hd 4)) .stop) (V := vq31 n m sd ws s ok) hmG (fun G R => by kernel_rfl) ?_
    unfold vq31
    try dsimp only
    simp only [Ty.dflt, hs1, take_len, List.drop_zero, List.take_length, Mi_getD, Mi_len, Nt_Mi, Int.toNat_natCast, Mi_set, Nat.zero_add, Nat.sub_zero, set_same, cast_bne0, List.length_set]
    cases ok with
    | false =>
      have h1 := hx false r (by rw [hr]; rfl)
      simp (disch := omega) only [wrG, sameK_iff, true_and, and_true, decide_eq_true_eq, decide_eq_false_iff_not, ne_eq, not_false_eq_true, Bool.false_eq_true, Bool.true_eq_false, false_implies, true_implies, Ty.dflt, reduceCtorEq, beq_iff_eq, bne_iff_ne, beq_eq_false_iff_ne, bne_eq_false_iff_eq, Bool.not_eq_true, Bool.not_eq_eq_eq_not, Bool.not_true, Bool.not_false, gt_iff_lt, ge_iff_le, Int.not_lt, Int.not_le]
      repeat' (first | with_reducible refine And.intro ?_ ?_ | intro _)
      all_goals first | rfl | omega | assumption | trivial | (exfalso; simp_all; done) | (exfalso; omega) | skip
    | true =>
      cases hd : sd.getD s.toNat false with
      | false =>
        have h1 := hx true r (by rw [hr, hd]; rfl)
        simp (disch := omega) only [wrG, sameK_iff, true_and, and_true, decide_eq_true_eq, decide_eq_false_iff_not, ne_eq, not_false_eq_true, Bool.false_eq_true, Bool.true_eq_false, false_implies, true_implies, Ty.dflt, reduceCtorEq, beq_iff_eq, bne_iff_ne, beq_eq_false_iff_ne, bne_eq_false_iff_eq, Bool.not_eq_true, Bool.not_eq_eq_eq_not, Bool.not_true, Bool.not_false, gt_iff_lt, ge_iff_le, Int.not_lt, Int.not_le]
        repeat' (first | with_reducible refine And.intro ?_ ?_ | intro _)
        all_goals first | rfl | omega | assumption | trivial | (exfalso; simp_all; done) | (exfalso; omega) | skip
      | true =>
        have h1 := hx (m.getD s.toNat 0 != 0) r (by rw [hr, hd]; rfl)
        simp (disch := omega) only [wrG, sameK_iff, true_and, and_true, decide_eq_true_eq, decide_eq_false_iff_not, ne_eq, not_false_eq_true, Bool.false_eq_true, Bool.true_eq_false, false_implies, true_implies, Ty.dflt, reduceCtorEq, beq_iff_eq, bne_iff_ne, beq_eq_false_iff_ne, bne_eq_false_iff_eq, Bool.not_eq_true, Bool.not_eq_eq_eq_not, Bool.not_true, Bool.not_false, gt_iff_lt, ge_iff_le, Int.not_lt, Int.not_le]
        repeat' (first | with_reducible refine And.intro ?_ ?_ | intro _)
        all_goals first | rfl | omega | assumption | trivial | (exfalso; simp_all; done) | (exfalso; omega) | skip
def vq32 (n : Nat) (m : List Nat) (sd : List Bool) (ws : List (List Int)) (s : Int) (ok : Bool) (G : Nat → St → Prop) (R : D × List (Option Row) × List Row → Prop) : Prop := let yy0 := (NK.mk 46 (Ty.int IntKind.i64).sl 0 3 (Ty.int IntKind.i64)); let yy1 := (Row.box 71 [D.v (Value.slice none 0 0), D.v (Value.slice none 0 0), D.v (Value.bool false)]); let yy2 := (Row.data 80 (Ty.int IntKind.u64) (Mi m)); (decide (s < (↑ws.length : Int)) = true → (ok = true → (0 : Int) ≤ s ∧ s < (↑ws.length : Int) ∧ 0 + s.toNat < ws.length ∧ SameK (KK n60 3) (KK n60 3) ∧ G 3 (stOf 119 [2, 6, 7, 12, 13, 14] [D.ptr 0 0 0, D.own 1 0 n none, D.own 2 0 n (some n), D.own 3 0 ws.length none, D.v (Value.bool (decide ((↑(List.length (ws.getD (0 + s.toNat) yy0.t.dflt)) : Int) > (0 : Int)))), D.v (Value.int IntKind.i64 (IntKind.i64.wrap (s + (1 : Int))))] [Slot.live yy1, Slot.live yy2, Slot.live (Row.data 4 Ty.bool sd), Slot.live (Row.nest yy0 (ws.set (0 + s.toNat) (List.take (List.length (ws.getD (0 + s.toNat) yy0.t.dflt)) (ws.getD (0 + s.toNat) yy0.t.dflt))) none)])) ∧ (ok = false → SameK (KK n60 3) (KK n60 3) ∧ G 3 (stOf 119 [2, 6, 7, 12, 13, 14] [D.ptr 0 0 0, D.own 1 0 n none, D.own 2 0 n (some n), D.own 3 0 ws.length none, D.v (Value.bool false), D.v (Value.int IntKind.i64 (IntKind.i64.wrap (s + (1 : Int))))] [Slot.live yy1, Slot.live yy2, Slot.live (Row.data 4 Ty.bool sd), Slot.live (Row.nest yy0 ws none)]))) ∧ (decide (s < (↑ws.length : Int)) = false → SameK (KK n60 4) (KK n60 4) ∧ G 4 (stOf 119 [2, 6, 7, 12, 13, 15] [D.ptr 0 0 0, D.own 1 0 n none, D.own 2 0 n (some n), D.own 3 0 ws.length none, D.v (Value.bool ok), D.v (Value.int IntKind.i64 (0 : Int))] [Slot.live yy1, Slot.live yy2, Slot.live (Row.data 4 Ty.bool sd), Slot.live (Row.nest yy0 ws none)]))
theorem e60c (g : Gr) (W : List (List Int)) (M : List Nat) (S : List Slt) (n : Nat) (m : List Nat) (sd : List Bool) (ws : List (List Int)) (hm : m.length = n) (hsd : sd.length = n) (hn : n ≤ 300) (hw : ws.length ≤ 1000) (z : Nat) : ∀ (s : Int) (ok : Bool), 0 ≤ s → s + z = ws.length → ∀ r, r = ((ok && (ws.drop s.toNat).all fun w => decide ((w.length : Int) > 0)) && restB sd m n 0) → GetsK Try.prog Try.f60.results.toList [none,none] (KK n60) 0 (.tup [.agg [.own 0 0 n none, .own 1 0 ws.length none, .v (.bool r)], .v (.int .i64 0)], [], [.data 80 (.int .u64) (Mi m), .nest kW ws none]) 3 (stOf 119 [2,6,7,12,13,14] [.ptr 0 0 0, .own 1 0 n none, .own 2 0 n (some n), .own 3 0 ws.length none, .v (.bool ok), .v (.int .i64 s)] [.live (.box 71 [.v (.slice none 0 0), .v (.slice none 0 0), .v (.bool false)]), .live (.data 80 (.int .u64) (Mi m)), .live (.data 4 .bool sd), .live (.nest kW ws none)]) := by
  induction z with
  | zero =>
    intro s ok s0 hs r hr
    rw [List.drop_eq_nil_of_le (by omega)] at hr
    have hx := e60d g W M S n m sd ws hm hsd hn n 0 ok (by omega) (by omega) r (by rw [hr]; simp)
    refine gets_vc (flag [2000089] spNa) (fun k => [[1,2,5,6,7,8],[1,2,5,6,7,8,9],[1,2,5,6,7],[2,6,7,12,13,14],[2,6,7,12,13,15]].getD k []) (fun k => if k = 99 then [⟨2, 80, .int .u64⟩, ⟨4010002, 46, WT⟩] else if k = 2 then [⟨1000000006, 80, .int .u64⟩] else []) 400 (.fork (.fork (.hd 3) (.hd 3)) (.hd 4)) (V := vq32 n m sd ws s ok) hmG (fun G R => by kernel_rfl) ?_
    unfold vq32
    try dsimp only
    simp (disch := omega) only [wrG, sameK_iff, true_and, and_true, decide_eq_true_eq, decide_eq_false_iff_not, ne_eq, not_false_eq_true, Bool.false_eq_true, Bool.true_eq_false, false_implies, true_implies, Ty.dflt, reduceCtorEq, beq_iff_eq, bne_iff_ne, beq_eq_false_iff_ne, bne_eq_false_iff_eq, Bool.not_eq_true, Bool.not_eq_eq_eq_not, Bool.not_true, Bool.not_false, gt_iff_lt, ge_iff_le, Int.not_lt, Int.not_le]
    repeat' (first | with_reducible refine And.intro ?_ ?_ | intro _)
    all_goals first | rfl | omega | assumption | trivial | (exfalso; simp_all; done) | (exfalso; omega) | skip
  | succ z ih =>
    intro s ok s0 hs r hr
    have hs1 : IntKind.i64.wrap (s + 1) = s + 1 := wrG (by omega) (by omega)
    rw [drop_at (xs := ws) (i := s) ([] : List Int) s0 (by omega)] at hr
    simp only [List.all_cons] at hr
    have hx := fun ok' => ih (s + 1) ok' (by omega) (by omega)
    refine gets_vc (flag [2000089] spNa) (fun k => [[1,2,5,6,7,8],[1,2,5,6,7,8,9],[1,2,5,6,7],[2,6,7,12,13,14],[2,6,7,12,13,15]].getD k []) (fun k => if k = 99 then [⟨2, 80, .int .u64⟩, ⟨4010002, 46, WT⟩] else if k = 2 then [⟨1000000006, 80, .int .u64⟩] else []) 400 (.fork (.fork (.hd 3) (.hd 3)) (.hd 4)) (V := vq32 n m sd ws s ok) hmG (fun G R => by kernel_rfl) ?_
    unfold vq32
    try dsimp only
    simp only [Ty.dflt, hs1, take_len, List.drop_zero, List.take_length, Mi_getD, Mi_len, Nt_Mi, Int.toNat_natCast, Mi_set, Nat.zero_add, Nat.sub_zero, set_same, cast_bne0, List.length_set]
    cases ok with
    | false =>
      have h1 := hx false r (by rw [hr]; rfl)
      simp (disch := omega) only [wrG, sameK_iff, true_and, and_true, decide_eq_true_eq, decide_eq_false_iff_not, ne_eq, not_false_eq_true, Bool.false_eq_true, Bool.true_eq_false, false_implies, true_implies, Ty.dflt, reduceCtorEq, beq_iff_eq, bne_iff_ne, beq_eq_false_iff_ne, bne_eq_false_iff_eq, Bool.not_eq_true, Bool.not_eq_eq_eq_not, Bool.not_true, Bool.not_false, gt_iff_lt, ge_iff_le, Int.not_lt, Int.not_le]
      repeat' (first | with_reducible refine And.intro ?_ ?_ | intro _)
      all_goals first | rfl | omega | assumption | trivial | (exfalso; simp_all; done) | (exfalso; omega) | skip
    | true =>
      have h1 := hx (decide (((ws.getD s.toNat []).length : Int) > 0)) r (by rw [hr, Bool.true_and])
      simp (disch := omega) only [wrG, sameK_iff, true_and, and_true, decide_eq_true_eq, decide_eq_false_iff_not, ne_eq, not_false_eq_true, Bool.false_eq_true, Bool.true_eq_false, false_implies, true_implies, Ty.dflt, reduceCtorEq, beq_iff_eq, bne_iff_ne, beq_eq_false_iff_ne, bne_eq_false_iff_eq, Bool.not_eq_true, Bool.not_eq_eq_eq_not, Bool.not_true, Bool.not_false, gt_iff_lt, ge_iff_le, Int.not_lt, Int.not_le]
      repeat' (first | with_reducible refine And.intro ?_ ?_ | intro _)
      all_goals first | rfl | omega | assumption | trivial | (exfalso; simp_all; done) | (exfalso; omega) | skip
theorem e60b (g : Gr) (W : List (List Int)) (M : List Nat) (S : List Slt) (n : Nat) (sd : List Bool) (hsd : sd.length = n) (hn : n ≤ 300) (N : Nat) : ∀ (m : List Nat), m.sum < N → m.length = n → Fine W S m → ∀ mE ws r, mE = gfpF W S m → ws = wordsF W S mE → r = ((ws.all fun w => decide ((w.length : Int) > 0)) && restB sd mE n 0) → GetsK Try.prog Try.f60.results.toList [none,none] (KK n60) 0 (.tup [.agg [.own 0 0 n none, .own 1 0 ws.length none, .v (.bool r)], .v (.int .i64 0)], [], [.data 80 (.int .u64) (Mi mE), .nest kW ws none]) 2 (stOf 119 [1,2,5,6,7] [.ptr 0 0 0, .ptr 1 0 0, slS S, .own 2 0 n none, .own 3 0 n (some n)] [.live (.box 68 [.v (.int .i64 g.h), .v (.int .i64 g.w), .sl false false .bool g.B, .sl false false .bool g.R, .sl false false .bool g.L, slW W, slU M]), .live (.box 71 [.v (.slice none 0 0), .v (.slice none 0 0), .v (.bool false)]), .live (.data 80 (.int .u64) (Mi m)), .live (.data 4 .bool sd)]) := by
  induction N with
  | zero => intro m h; omega
  | succ N ih =>
    intro m hsum hm F mE ws r h1 h2 h3
    have ht : (Mi m).take n = Mi m := by rw [← hm]; exact Mi_take m
    have c1 := d101 g W M S m F
    have ol := once_len W S m
    rw [hm] at ol
    have ht2 : (Mi (onceF W S m)).take n = Mi (onceF W S m) := by rw [← ol]; exact Mi_take _
    rw [ol] at c1
    have c2 := d102 (Mi (onceF W S m)) (Mi m) (by rw [Mi_len]; omega)
    refine gets_vc (flag [2000089] spNa) (fun k => [[1,2,5,6,7,8],[1,2,5,6,7,8,9],[1,2,5,6,7],[2,6,7,12,13,14],[2,6,7,12,13,15]].getD k []) (fun k => if k = 99 then [⟨2, 80, .int .u64⟩, ⟨4010002, 46, WT⟩] else if k = 2 then [⟨1000000006, 80, .int .u64⟩] else []) 400 (.fork (.hd 3) (.hd 2)) (V := fun G R => let yy0 := (onceF (Pr.mk g W (Nt (Mi M))).W S (Nt (List.take n (List.drop 0 (Mi m))))); let yy1 := (Pr.mk g W (Nt (Mi M))); let yy2 := (List.drop 0 (Mi m)); let yy3 := (Ty.int IntKind.i64); let yy4 := (List.take yy0.length (List.drop 0 (Mi yy0)) = List.take n yy2); let yy5 := (Ty.int IntKind.u64); let yy6 := (wordsF yy1.W S (Nt (List.take n yy2))); let yy7 := (Row.box 71 [D.v (Value.slice none 0 0), D.v (Value.slice none 0 0), D.v (Value.bool false)]); Con Try.prog 101 [] [D.agg [D.v (Value.int IntKind.i64 yy1.g.h), D.v (Value.int IntKind.i64 yy1.g.w), D.sl false false Ty.bool yy1.g.B, D.sl false false Ty.bool yy1.g.R, D.sl false false Ty.bool yy1.g.L, D.sl false false yy3.sl yy1.W, D.sl false false yy5 (Mi yy1.M)], D.sl false false (yy3.prod (Ty.bool.prod yy3.sl)) S, D.sl false false yy5 (Mi (Nt (List.take n yy2)))] (D.tup [D.own 0 0 yy0.length none, D.own 1 0 yy6.length none]) [] [Row.data 80 yy5 (Mi yy0), Row.nest (NK.mk 46 yy3.sl 0 3 yy3) yy6 none] ∧ Value.int IntKind.i64 g.h = Value.int IntKind.i64 yy1.g.h ∧ Value.int IntKind.i64 g.w = Value.int IntKind.i64 yy1.g.w ∧ g.B = yy1.g.B ∧ g.R = yy1.g.R ∧ g.L = yy1.g.L ∧ W = yy1.W ∧ Mi M = Mi yy1.M ∧ S = S ∧ List.take n yy2 = Mi (Nt (List.take n yy2)) ∧ Con Try.prog 102 [] [D.sl false false yy5 (List.take yy0.length (List.drop 0 (Mi yy0))), D.sl false false yy5 (List.take n yy2)] (D.v (Value.bool (decide yy4))) [] [] ∧ List.take yy0.length (List.drop 0 (Mi yy0)) = List.take yy0.length (List.drop 0 (Mi yy0)) ∧ List.take n yy2 = List.take n yy2 ∧ (decide yy4 = true → SameK (KK n60 3) (KK n60 3) ∧ G 3 (stOf 119 [2, 6, 7, 12, 13, 14] [D.ptr 0 0 0, D.own 1 0 n none, D.own 2 0 n (some n), D.own 3 0 yy6.length none, D.v (Value.bool true), D.v (Value.int IntKind.i64 (0 : Int))] [Slot.live yy7, Slot.live (Row.data 80 yy5 (Mi m)), Slot.live (Row.data 4 Ty.bool sd), Slot.live (Row.nest (NK.mk 46 yy3.sl 0 3 yy3) yy6 none)])) ∧ (decide yy4 = false → SameK (KK n60 2) (KK n60 2) ∧ G 2 (stOf 119 [1, 2, 5, 6, 7] [D.ptr 0 0 0, D.ptr 1 0 0, D.sl false false (yy3.prod (Ty.bool.prod yy3.sl)) S, D.own 2 0 yy0.length none, D.own 3 0 n (some n)] [Slot.live (Row.box 68 [D.v (Value.int IntKind.i64 g.h), D.v (Value.int IntKind.i64 g.w), D.sl false false Ty.bool g.B, D.sl false false Ty.bool g.R, D.sl false false Ty.bool g.L, D.sl false false yy3.sl W, D.sl false false yy5 (Mi M)]), Slot.live yy7, Slot.live (Row.data 80 yy5 (List.take yy0.length (List.drop 0 (Mi yy0)))), Slot.live (Row.data 4 Ty.bool sd)]))) hmG (fun G R => by kernel_rfl) ?_
    try dsimp only
    simp only [List.drop_zero, Nt_Mi, ht, ol, ht2]
    by_cases h : onceF W S m = m
    · rw [gfp_same h] at h1
      subst h1
      have hwl : ws.length ≤ 1000 := by rw [h2]; simp [wordsF]; exact F.slots
      have hx := e60c g W M S n mE sd ws hm hsd hn hwl ws.length 0 true (by omega) (by omega) r (by rw [h3]; rfl)
      rw [← h2] at c1 ⊢
      have e : decide (Mi (onceF W S mE) = Mi mE) = true := decide_eq_true (by rw [h])
      rw [e] at c2
      simp only [e]
      simp (disch := omega) only [wrG, sameK_iff, true_and, and_true, decide_eq_true_eq, decide_eq_false_iff_not, ne_eq, not_false_eq_true, Bool.false_eq_true, Bool.true_eq_false, false_implies, true_implies, Ty.dflt, reduceCtorEq, beq_iff_eq, bne_iff_ne, beq_eq_false_iff_ne, bne_eq_false_iff_eq, Bool.not_eq_true, Bool.not_eq_eq_eq_not, Bool.not_true, Bool.not_false, gt_iff_lt, ge_iff_le, Int.not_lt, Int.not_le]
      repeat' (first | with_reducible refine And.intro ?_ ?_ | intro _)
      all_goals first | rfl | omega | assumption | trivial | (exfalso; simp_all; done) | (exfalso; omega) | skip
    · have e : decide (Mi (onceF W S m) = Mi m) = false := decide_eq_false (fun q => h (Mi_inj q))
      rw [e] at c2
      have hs := once_sum h
      have F2 : Fine W S (onceF W S m) := ⟨F.words, F.long, F.slots, fun s hs => by rw [ol, ← hm]; exact F.cells s hs, by omega, leq_small (once_leq W S m) F.small⟩
      have hx := ih (onceF W S m) (by omega) ol F2 mE ws r (by rw [h1, fix_step h]) h2 h3
      simp only [e]
      simp (disch := omega) only [wrG, sameK_iff, true_and, and_true, decide_eq_true_eq, decide_eq_false_iff_not, ne_eq, not_false_eq_true, Bool.false_eq_true, Bool.true_eq_false, false_implies, true_implies, Ty.dflt, reduceCtorEq, beq_iff_eq, bne_iff_ne, beq_eq_false_iff_ne, bne_eq_false_iff_eq, Bool.not_eq_true, Bool.not_eq_eq_eq_not, Bool.not_true, Bool.not_false, gt_iff_lt, ge_iff_le, Int.not_lt, Int.not_le]
      repeat' (first | with_reducible refine And.intro ?_ ?_ | intro _)
      all_goals first | rfl | omega | assumption | trivial | (exfalso; simp_all; done) | (exfalso; omega) | skip
def vq33 (g : Gr) (W : List (List Int)) (M : List Nat) (S : List Slt) (n : Nat) (s : Int) (k : Int) (m : List Nat) (sd : List Bool) (G : Nat → St → Prop) (R : D × List (Option Row) × List Row → Prop) : Prop := let yy0 := (S.getD s.toNat ((Ty.int IntKind.i64).prod (Ty.bool.prod (Ty.int IntKind.i64).sl)).dflt); let yy1 := (Ty.int IntKind.i64); let yy2 := (Row.box 68 [D.v (Value.int IntKind.i64 g.h), D.v (Value.int IntKind.i64 g.w), D.sl false false Ty.bool g.B, D.sl false false Ty.bool g.R, D.sl false false Ty.bool g.L, D.sl false false yy1.sl W, D.sl false false (Ty.int IntKind.u64) (Mi M)]); let yy3 := (List.getD yy0.snd.snd k.toNat yy1.dflt); let yy4 := (Row.box 71 [D.v (Value.slice none 0 0), D.v (Value.slice none 0 0), D.v (Value.bool false)]); (0 : Int) ≤ s ∧ s < (↑S.length : Int) ∧ (decide (k < (↑(List.length yy0.snd.snd) : Int)) = true → (0 : Int) ≤ s ∧ s < (↑S.length : Int) ∧ (0 : Int) ≤ k ∧ k < (↑(List.length yy0.snd.snd) : Int) ∧ (0 : Int) ≤ List.getD yy0.snd.snd k.toNat yy1.dflt ∧ List.getD yy0.snd.snd k.toNat yy1.dflt < (↑(Mi M).length : Int) ∧ (0 : Int) ≤ List.getD yy0.snd.snd k.toNat yy1.dflt ∧ List.getD yy0.snd.snd k.toNat yy1.dflt < (↑n : Int) ∧ 0 + Int.toNat yy3 < (Mi m).length ∧ (0 : Int) ≤ List.getD yy0.snd.snd k.toNat yy1.dflt ∧ List.getD yy0.snd.snd k.toNat yy1.dflt < (↑n : Int) ∧ 0 + Int.toNat yy3 < sd.length ∧ SameK (KK n60 1) (KK n60 1) ∧ G 1 (stOf 119 [1, 2, 5, 6, 7, 8, 9] [D.ptr 0 0 0, D.ptr 1 0 0, D.sl false false (yy1.prod (Ty.bool.prod yy1.sl)) S, D.own 2 0 n (some n), D.own 3 0 n (some n), D.v (Value.int IntKind.i64 s), D.v (Value.int IntKind.i64 (IntKind.i64.wrap (k + (1 : Int))))] [Slot.live yy2, Slot.live yy4, Slot.live (Row.data 80 (Ty.int IntKind.u64) ((Mi m).set (0 + Int.toNat yy3) ((Mi M).getD (Int.toNat yy3) (Ty.int IntKind.u64).dflt))), Slot.live (Row.data 4 Ty.bool (sd.set (0 + Int.toNat yy3) true))])) ∧ (decide (k < (↑(List.length yy0.snd.snd) : Int)) = false → SameK (KK n60 0) (KK n60 0) ∧ G 0 (stOf 119 [1, 2, 5, 6, 7, 8] [D.ptr 0 0 0, D.ptr 1 0 0, D.sl false false (yy1.prod (Ty.bool.prod yy1.sl)) S, D.own 2 0 n (some n), D.own 3 0 n (some n), D.v (Value.int IntKind.i64 (IntKind.i64.wrap (s + (1 : Int))))] [Slot.live yy2, Slot.live yy4, Slot.live (Row.data 80 (Ty.int IntKind.u64) (Mi m)), Slot.live (Row.data 4 Ty.bool sd)]))
theorem e60i (g : Gr) (W : List (List Int)) (M : List Nat) (S : List Slt) (n : Nat) (s : Int) (F : Fine W S M) (hn : M.length = n) (s0 : 0 ≤ s) (s1 : s < S.length) (C : List Int) (hC : (S.getD s.toNat (0, false, [])).2.2 = C) (mE : List Nat) (sE : List Bool) (rM : List Nat) (rW : List (List Int)) (rO : Bool) (hx : GetsK Try.prog Try.f60.results.toList [none,none] (KK n60) 0 (.tup [.agg [.own 0 0 n none, .own 1 0 rW.length none, .v (.bool rO)], .v (.int .i64 0)], [], [.data 80 (.int .u64) (Mi rM), .nest kW rW none]) 0 (stOf 119 [1,2,5,6,7,8] [.ptr 0 0 0, .ptr 1 0 0, slS S, .own 2 0 n (some n), .own 3 0 n (some n), .v (.int .i64 (s + 1))] [.live (.box 68 [.v (.int .i64 g.h), .v (.int .i64 g.w), .sl false false .bool g.B, .sl false false .bool g.R, .sl false false .bool g.L, slW W, slU M]), .live (.box 71 [.v (.slice none 0 0), .v (.slice none 0 0), .v (.bool false)]), .live (.data 80 (.int .u64) (Mi mE)), .live (.data 4 .bool sE)])) (z : Nat) : ∀ (k : Int) (m : List Nat) (sd : List Bool), 0 ≤ k → k + z = C.length → m.length = n → sd.length = n → seatCells M (C.drop k.toNat) m = mE → markCells (C.drop k.toNat) sd = sE → GetsK Try.prog Try.f60.results.toList [none,none] (KK n60) 0 (.tup [.agg [.own 0 0 n none, .own 1 0 rW.length none, .v (.bool rO)], .v (.int .i64 0)], [], [.data 80 (.int .u64) (Mi rM), .nest kW rW none]) 1 (stOf 119 [1,2,5,6,7,8,9] [.ptr 0 0 0, .ptr 1 0 0, slS S, .own 2 0 n (some n), .own 3 0 n (some n), .v (.int .i64 s), .v (.int .i64 k)] [.live (.box 68 [.v (.int .i64 g.h), .v (.int .i64 g.w), .sl false false .bool g.B, .sl false false .bool g.R, .sl false false .bool g.L, slW W, slU M]), .live (.box 71 [.v (.slice none 0 0), .v (.slice none 0 0), .v (.bool false)]), .live (.data 80 (.int .u64) (Mi m)), .live (.data 4 .bool sd)]) := by
  have hs1 : IntKind.i64.wrap (s + 1) = s + 1 := by have := F.slots; exact wrG (by omega) (by omega)
  have hc1 := F.cells _ (getD_in (d := (0, false, [])) (k := s.toNat) (by omega))
  rw [hC] at hc1
  have hsl := F.slots
  induction z with
  | zero =>
    intro k m sd k0 hk hm hsd he hf
    rw [List.drop_eq_nil_of_le (by omega)] at he hf
    have he : m = mE := he
    have hf : sd = sE := hf
    subst he; subst hf
    refine gets_vc (flag [2000089] spNa) (fun k => [[1,2,5,6,7,8],[1,2,5,6,7,8,9],[1,2,5,6,7],[2,6,7,12,13,14],[2,6,7,12,13,15]].getD k []) (fun k => if k = 99 then [⟨2, 80, .int .u64⟩, ⟨4010002, 46, WT⟩] else if k = 2 then [⟨1000000006, 80, .int .u64⟩] else []) 400 (.fork (.hd 1) (.hd 0)) (V := vq33 g W M S n s k m sd) hmG (fun G R => by kernel_rfl) ?_
    unfold vq33
    try dsimp only
    simp only [Ty.dflt, hs1, hC]
    simp (disch := omega) only [wrG, sameK_iff, true_and, and_true, decide_eq_true_eq, decide_eq_false_iff_not, ne_eq, not_false_eq_true, Bool.false_eq_true, Bool.true_eq_false, false_implies, true_implies, Ty.dflt, reduceCtorEq, beq_iff_eq, bne_iff_ne, beq_eq_false_iff_ne, bne_eq_false_iff_eq, Bool.not_eq_true, Bool.not_eq_eq_eq_not, Bool.not_true, Bool.not_false, gt_iff_lt, ge_iff_le, Int.not_lt, Int.not_le]
    repeat' (first | with_reducible refine And.intro ?_ ?_ | intro _)
    all_goals first | rfl | omega | assumption | trivial | (exfalso; simp_all; done) | (exfalso; omega) | skip
  | succ z ih =>
    intro k m sd k0 hk hm hsd he hf
    have hd := drop_at (xs := C) (i := k) (0 : Int) k0 (by omega)
    rw [hd] at he hf
    simp only [seatCells, markCells] at he hf
    have hk1 : IntKind.i64.wrap (k + 1) = k + 1 := by have := hc1.1; exact wrG (by omega) (by omega)
    have hc2 := hc1.2 _ (getD_in (d := 0) (k := k.toNat) (l := C) (by omega))
    obtain ⟨c, hcc⟩ : ∃ c, C.getD k.toNat 0 = c := ⟨_, rfl⟩
    rw [hcc] at he hf hc2
    have hx2 := ih (k + 1) (m.set c.toNat (M.getD c.toNat 0)) (sd.set c.toNat true) (by omega) (by omega) (by rw [List.length_set]; exact hm) (by rw [List.length_set]; exact hsd) he hf
    refine gets_vc (flag [2000089] spNa) (fun k => [[1,2,5,6,7,8],[1,2,5,6,7,8,9],[1,2,5,6,7],[2,6,7,12,13,14],[2,6,7,12,13,15]].getD k []) (fun k => if k = 99 then [⟨2, 80, .int .u64⟩, ⟨4010002, 46, WT⟩] else if k = 2 then [⟨1000000006, 80, .int .u64⟩] else []) 400 (.fork (.hd 1) (.hd 0)) (V := vq33 g W M S n s k m sd) hmG (fun G R => by kernel_rfl) ?_
    unfold vq33
    try dsimp only
    simp only [Ty.dflt, hk1, hC, hcc, take_len, List.drop_zero, List.take_length, Mi_getD, Mi_len, Nt_Mi, Int.toNat_natCast, Mi_set, Nat.zero_add, Nat.sub_zero, set_same, cast_bne0, List.length_set]
    simp (disch := omega) only [wrG, sameK_iff, true_and, and_true, decide_eq_true_eq, decide_eq_false_iff_not, ne_eq, not_false_eq_true, Bool.false_eq_true, Bool.true_eq_false, false_implies, true_implies, Ty.dflt, reduceCtorEq, beq_iff_eq, bne_iff_ne, beq_eq_false_iff_ne, bne_eq_false_iff_eq, Bool.not_eq_true, Bool.not_eq_eq_eq_not, Bool.not_true, Bool.not_false, gt_iff_lt, ge_iff_le, Int.not_lt, Int.not_le]
    repeat' (first | with_reducible refine And.intro ?_ ?_ | intro _)
    all_goals first | rfl | omega | assumption | trivial | (exfalso; simp_all; done) | (exfalso; omega) | skip
def vq34 (g : Gr) (W : List (List Int)) (M : List Nat) (S : List Slt) (n : Nat) (s : Int) (m : List Nat) (sd : List Bool) (G : Nat → St → Prop) (R : D × List (Option Row) × List Row → Prop) : Prop := let yy0 := (Row.box 68 [D.v (Value.int IntKind.i64 g.h), D.v (Value.int IntKind.i64 g.w), D.sl false false Ty.bool g.B, D.sl false false Ty.bool g.R, D.sl false false Ty.bool g.L, D.sl false false (Ty.int IntKind.i64).sl W, D.sl false false (Ty.int IntKind.u64) (Mi M)]); let yy1 := (Row.box 71 [D.v (Value.slice none 0 0), D.v (Value.slice none 0 0), D.v (Value.bool false)]); (decide (s < (↑S.length : Int)) = true → SameK (KK n60 1) (KK n60 1) ∧ G 1 (stOf 119 [1, 2, 5, 6, 7, 8, 9] [D.ptr 0 0 0, D.ptr 1 0 0, D.sl false false ((Ty.int IntKind.i64).prod (Ty.bool.prod (Ty.int IntKind.i64).sl)) S, D.own 2 0 n (some n), D.own 3 0 n (some n), D.v (Value.int IntKind.i64 s), D.v (Value.int IntKind.i64 (0 : Int))] [Slot.live yy0, Slot.live yy1, Slot.live (Row.data 80 (Ty.int IntKind.u64) (Mi m)), Slot.live (Row.data 4 Ty.bool sd)])) ∧ (decide (s < (↑S.length : Int)) = false → SameK (KK n60 2) (KK n60 2) ∧ G 2 (stOf 119 [1, 2, 5, 6, 7] [D.ptr 0 0 0, D.ptr 1 0 0, D.sl false false ((Ty.int IntKind.i64).prod (Ty.bool.prod (Ty.int IntKind.i64).sl)) S, D.own 2 0 n none, D.own 3 0 n (some n)] [Slot.live yy0, Slot.live yy1, Slot.live (Row.data 80 (Ty.int IntKind.u64) (List.take n (List.drop 0 (Mi m)))), Slot.live (Row.data 4 Ty.bool sd)]))
theorem e60a (g : Gr) (W : List (List Int)) (M : List Nat) (S : List Slt) (n : Nat) (F : Fine W S M) (hn : M.length = n) (m0 : List Nat) (s0 : List Bool) (rM : List Nat) (rW : List (List Int)) (rO : Bool) (h1 : rM = gfpF W S m0) (h2 : rW = wordsF W S rM) (h3 : rO = ((rW.all fun w => decide ((w.length : Int) > 0)) && restB s0 rM n 0)) (z : Nat) : ∀ (s : Int) (m : List Nat) (sd : List Bool), 0 ≤ s → s + z = S.length → m.length = n → sd.length = n → Smalls m → seatSlots M (S.drop s.toNat) m = m0 → markSlots (S.drop s.toNat) sd = s0 → GetsK Try.prog Try.f60.results.toList [none,none] (KK n60) 0 (.tup [.agg [.own 0 0 n none, .own 1 0 rW.length none, .v (.bool rO)], .v (.int .i64 0)], [], [.data 80 (.int .u64) (Mi rM), .nest kW rW none]) 0 (stOf 119 [1,2,5,6,7,8] [.ptr 0 0 0, .ptr 1 0 0, slS S, .own 2 0 n (some n), .own 3 0 n (some n), .v (.int .i64 s)] [.live (.box 68 [.v (.int .i64 g.h), .v (.int .i64 g.w), .sl false false .bool g.B, .sl false false .bool g.R, .sl false false .bool g.L, slW W, slU M]), .live (.box 71 [.v (.slice none 0 0), .v (.slice none 0 0), .v (.bool false)]), .live (.data 80 (.int .u64) (Mi m)), .live (.data 4 .bool sd)]) := by
  have hsl := F.slots
  have hfs := F.size
  induction z with
  | zero =>
    intro s m sd s0' hs hm hsd hsm h4 h5
    rw [List.drop_eq_nil_of_le (by omega)] at h4 h5
    have h4 : m = m0 := h4
    have h5 : sd = s0 := h5
    subst h4; subst h5
    have ht : (Mi m).take n = Mi m := by rw [← hm]; exact Mi_take m
    have F2 : Fine W S m := ⟨F.words, F.long, F.slots, fun s hs => by rw [hm, ← hn]; exact F.cells s hs, by omega, hsm⟩
    have hx := e60b g W M S n sd hsd (by omega) (m.sum + 1) m (by omega) hm F2 rM rW rO h1 h2 h3
    refine gets_vc (flag [2000089] spNa) (fun k => [[1,2,5,6,7,8],[1,2,5,6,7,8,9],[1,2,5,6,7],[2,6,7,12,13,14],[2,6,7,12,13,15]].getD k []) (fun k => if k = 99 then [⟨2, 80, .int .u64⟩, ⟨4010002, 46, WT⟩] else if k = 2 then [⟨1000000006, 80, .int .u64⟩] else []) 400 (.fork (.hd 1) (.hd 2)) (V := vq34 g W M S n s m sd) hmG (fun G R => by kernel_rfl) ?_
    unfold vq34
    try dsimp only
    simp only [List.drop_zero, ht]
    simp (disch := omega) only [wrG, sameK_iff, true_and, and_true, decide_eq_true_eq, decide_eq_false_iff_not, ne_eq, not_false_eq_true, Bool.false_eq_true, Bool.true_eq_false, false_implies, true_implies, Ty.dflt, reduceCtorEq, beq_iff_eq, bne_iff_ne, beq_eq_false_iff_ne, bne_eq_false_iff_eq, Bool.not_eq_true, Bool.not_eq_eq_eq_not, Bool.not_true, Bool.not_false, gt_iff_lt, ge_iff_le, Int.not_lt, Int.not_le]
    repeat' (first | with_reducible refine And.intro ?_ ?_ | intro _)
    all_goals first | rfl | omega | assumption | trivial | (exfalso; simp_all; done) | (exfalso; omega) | skip
  | succ z ih =>
    intro s m sd s0' hs hm hsd hsm h4 h5
    have hd := drop_at (xs := S) (i := s) ((0, false, []) : Slt) s0' (by omega)
    obtain ⟨C, hC⟩ : ∃ C, (S.getD s.toNat (0, false, [])).2.2 = C := ⟨_, rfl⟩
    rw [hd] at h4 h5
    simp only [seatSlots, markSlots, hC] at h4 h5
    have hx := ih (s + 1) (seatCells M C m) (markCells C sd) (by omega) (by omega) (by rw [seatCells_len]; exact hm) (by rw [markCells_len]; exact hsd) (seatCells_small F.small C hsm) h4 h5
    have hx1 := e60i g W M S n s F hn s0' (by omega) C hC _ _ rM rW rO hx C.length 0 m sd (by omega) (by omega) hm hsd rfl rfl
    refine gets_vc (flag [2000089] spNa) (fun k => [[1,2,5,6,7,8],[1,2,5,6,7,8,9],[1,2,5,6,7],[2,6,7,12,13,14],[2,6,7,12,13,15]].getD k []) (fun k => if k = 99 then [⟨2, 80, .int .u64⟩, ⟨4010002, 46, WT⟩] else if k = 2 then [⟨1000000006, 80, .int .u64⟩] else []) 400 (.fork (.hd 1) (.hd 2)) (V := vq34 g W M S n s m sd) hmG (fun G R => by kernel_rfl) ?_
    unfold vq34
    try dsimp only
    simp (disch := omega) only [wrG, sameK_iff, true_and, and_true, decide_eq_true_eq, decide_eq_false_iff_not, ne_eq, not_false_eq_true, Bool.false_eq_true, Bool.true_eq_false, false_implies, true_implies, Ty.dflt, reduceCtorEq, beq_iff_eq, bne_iff_ne, beq_eq_false_iff_ne, bne_eq_false_iff_eq, Bool.not_eq_true, Bool.not_eq_eq_eq_not, Bool.not_true, Bool.not_false, gt_iff_lt, ge_iff_le, Int.not_lt, Int.not_le]
    repeat' (first | with_reducible refine And.intro ?_ ?_ | intro _)
    all_goals first | rfl | omega | assumption | trivial | (exfalso; simp_all; done) | (exfalso; omega) | skip
theorem narM_len (p : Pr) (h : checkP p = 0) : (narM p).length = p.M.length := by
  unfold narM m0F
  rw [if_pos h, gfp_len, seatSlots_len]
  simp
theorem d60 (g : Gr) (W : List (List Int)) (M : List Nat) (hM : Smalls M) : Con Try.prog 60 [] [.agg [.v (.int .i64 g.h), .v (.int .i64 g.w), .sl false false .bool g.B, .sl false false .bool g.R, .sl false false .bool g.L, slW W, slU M]] (narVal (narM ⟨g, W, M⟩) (narW ⟨g, W, M⟩) (narO ⟨g, W, M⟩) (checkP ⟨g, W, M⟩)) [] [.data 80 (.int .u64) (Mi (narM ⟨g, W, M⟩)), .nest kW (narW ⟨g, W, M⟩) none] := by
  refine con_vc (how := [none,none]) (c := n60) (K := (KK n60)) (flag [2000089] spNa) (fun k => [[1,2,5,6,7,8],[1,2,5,6,7,8,9],[1,2,5,6,7],[2,6,7,12,13,14],[2,6,7,12,13,15]].getD k []) (fun k => if k = 99 then [⟨2, 80, .int .u64⟩, ⟨4010002, 46, WT⟩] else if k = 2 then [⟨1000000006, 80, .int .u64⟩] else []) 400 (.fork .stop (.hd 0)) (V := fun G R => let yy0 := (Pr.mk g W (Nt (Mi M))); let yy1 := (↑(Mi M).length : Int); let yy2 := (Ty.int IntKind.i64); Con Try.prog 63 [] [D.agg [D.v (Value.int IntKind.i64 yy0.g.h), D.v (Value.int IntKind.i64 yy0.g.w), D.sl false false Ty.bool yy0.g.B, D.sl false false Ty.bool yy0.g.R, D.sl false false Ty.bool yy0.g.L, D.sl false false yy2.sl yy0.W, D.sl false false (Ty.int IntKind.u64) (Mi yy0.M)]] (D.v (Value.int IntKind.i64 (checkP yy0))) [] [] ∧ Value.int IntKind.i64 g.h = Value.int IntKind.i64 yy0.g.h ∧ Value.int IntKind.i64 g.w = Value.int IntKind.i64 yy0.g.w ∧ g.B = yy0.g.B ∧ g.R = yy0.g.R ∧ g.L = yy0.g.L ∧ W = yy0.W ∧ Mi M = Mi yy0.M ∧ ((checkP yy0 != (0 : Int)) = true → R (D.tup [D.agg [D.own 0 0 0 none, D.own 1 0 0 none, D.v (Value.bool false)], D.v (Value.int IntKind.i64 (checkP yy0))], [], [Row.data 80 (Ty.int IntKind.u64) [], Row.nest (NK.mk 46 yy2.sl 0 3 yy2) [] none])) ∧ ((checkP yy0 != (0 : Int)) = false → Con Try.prog 100 [] [D.agg [D.v (Value.int IntKind.i64 g.h), D.v (Value.int IntKind.i64 g.w), D.sl false false Ty.bool g.B, D.sl false false Ty.bool g.R, D.sl false false Ty.bool g.L]] (D.sl false false (yy2.prod (Ty.bool.prod yy2.sl)) (slotsF g)) [] [] ∧ Value.int IntKind.i64 g.h = Value.int IntKind.i64 g.h ∧ Value.int IntKind.i64 g.w = Value.int IntKind.i64 g.w ∧ g.B = g.B ∧ g.R = g.R ∧ g.L = g.L ∧ (0 : Int) ≤ yy1 ∧ yy1 ≤ yy1 ∧ yy1 ≤ (9223372036854775807 : Int) ∧ yy1.toNat * 8 ≤ 281474976710656 ∧ (0 : Int) ≤ yy1 ∧ yy1 ≤ yy1 ∧ yy1 ≤ (9223372036854775807 : Int) ∧ yy1.toNat * 1 ≤ 281474976710656 ∧ SameK (KK n60 0) (KK n60 0) ∧ G 0 (stOf 119 [1, 2, 5, 6, 7, 8] [D.ptr 0 0 0, D.ptr 1 0 0, D.sl false false (yy2.prod (Ty.bool.prod yy2.sl)) (slotsF g), D.own 2 0 yy1.toNat (some yy1.toNat), D.own 3 0 yy1.toNat (some yy1.toNat), D.v (Value.int IntKind.i64 (0 : Int))] [Slot.live (Row.box 68 [D.v (Value.int IntKind.i64 g.h), D.v (Value.int IntKind.i64 g.w), D.sl false false Ty.bool g.B, D.sl false false Ty.bool g.R, D.sl false false Ty.bool g.L, D.sl false false yy2.sl W, D.sl false false (Ty.int IntKind.u64) (Mi M)]), Slot.live (Row.box 71 [D.v (Value.slice none 0 0), D.v (Value.slice none 0 0), D.v (Value.bool false)]), Slot.live (Row.data 80 (Ty.int IntKind.u64) (List.replicate yy1.toNat (0 : Int))), Slot.live (Row.data 4 Ty.bool (List.replicate yy1.toNat false))]))) hmG Try.func60 (by kernel_rfl) (by kernel_rfl) (fun G R => by kernel_rfl) ?_
  try dsimp only
  try dsimp only
  have c0 := d63 g W M
  unfold narVal
  simp only [Nt_Mi, Mi_len, Int.toNat_natCast]
  by_cases h : checkP ⟨g, W, M⟩ = 0
  · have F := fine_of h hM
    have hsz := F.size
    have c1 := d100s g
    have hr : List.replicate M.length (0 : Int) = Mi (List.replicate M.length 0) := Mi_rep _
    have hl := narM_len ⟨g, W, M⟩ h
    have e1 : narM ⟨g, W, M⟩ = gfpF W (slotsF g) (m0F ⟨g, W, M⟩) := if_pos h
    have e2 : narW ⟨g, W, M⟩ = wordsF W (slotsF g) (narM ⟨g, W, M⟩) := if_pos h
    have hcell : ∀ s ∈ slotsF g, ∀ c ∈ s.2.2, 0 ≤ c ∧ c < M.length := fun s hs => (F.cells s hs).2
    have e3 : narO ⟨g, W, M⟩ = (((narW ⟨g, W, M⟩).all fun w => decide ((w.length : Int) > 0)) && restB (markSlots (slotsF g) (List.replicate M.length false)) (narM ⟨g, W, M⟩) M.length 0) := by
      rw [rest_all hl hcell]
      exact if_pos h
    have hx := e60a g W M (slotsF g) M.length F rfl _ _ _ _ _ e1 e2 e3 (slotsF g).length 0 (List.replicate M.length 0) (List.replicate M.length false) (by omega) (by omega) (by simp) (by simp) (by
      intro x hx
      rw [(List.mem_replicate.1 hx).2]
      decide) rfl rfl
    rw [h] at c0 ⊢
    rw [hl]
    simp only [hr, show ((0 : Int) != 0) = false from rfl]
    simp (disch := omega) only [wrG, sameK_iff, true_and, and_true, decide_eq_true_eq, decide_eq_false_iff_not, ne_eq, not_false_eq_true, Bool.false_eq_true, Bool.true_eq_false, false_implies, true_implies, Ty.dflt, reduceCtorEq, beq_iff_eq, bne_iff_ne, beq_eq_false_iff_ne, bne_eq_false_iff_eq, Bool.not_eq_true, Bool.not_eq_eq_eq_not, Bool.not_true, Bool.not_false, gt_iff_lt, ge_iff_le, Int.not_lt, Int.not_le]
    repeat' (first | with_reducible refine And.intro ?_ ?_ | intro _)
    all_goals first | rfl | omega | assumption | trivial | exact c1 | skip
  · have e1 : narM ⟨g, W, M⟩ = [] := if_neg h
    have e2 : narW ⟨g, W, M⟩ = [] := if_neg h
    have e3 : narO ⟨g, W, M⟩ = false := if_neg h
    rw [e1, e2, e3]
    have hb : (checkP ⟨g, W, M⟩ != 0) = true := by rw [bne_iff_ne]; exact h
    simp only [hb]
    simp (disch := omega) only [wrG, sameK_iff, true_and, and_true, decide_eq_true_eq, decide_eq_false_iff_not, ne_eq, not_false_eq_true, Bool.false_eq_true, Bool.true_eq_false, false_implies, true_implies, Ty.dflt, reduceCtorEq, beq_iff_eq, bne_iff_ne, beq_eq_false_iff_ne, bne_eq_false_iff_eq, Bool.not_eq_true, Bool.not_eq_eq_eq_not, Bool.not_true, Bool.not_false, gt_iff_lt, ge_iff_le, Int.not_lt, Int.not_le]
    repeat' (first | with_reducible refine And.intro ?_ ?_ | intro _)
    all_goals first | rfl | omega | assumption | trivial | (exfalso; simp_all; done) | (exfalso; omega) | skip
end Go.Proofs.YtnakmganodkliaaAm
namespace Go.Proofs.YtnakmganodkliaaAm
open Go
theorem once_slot {g : Gr} (hc : checkF g = 0) {s : Slt} (hs : s ∈ slotsF g) : OnceS s := by
  intro j k x y hx hy e
  obtain ⟨i, hi, he⟩ := List.getElem_of_mem hs
  have hin := slots_in hc s hs
  have hx0 := hin x (List.mem_of_getElem? hx)
  have hy0 := hin y (List.mem_of_getElem? hy)
  have hxy : x = y := by omega
  subst hxy
  have h1 : Sits (slotsF g) s.2.1 x i j := ⟨s, by rw [List.getElem?_eq_getElem hi, he], rfl, (List.getElem?_eq_some_iff.1 hx).1, by rw [List.getD_eq_getElem?_getD, hx]; rfl⟩
  have h2 : Sits (slotsF g) s.2.1 x i k := ⟨s, by rw [List.getElem?_eq_getElem hi, he], rfl, (List.getElem?_eq_some_iff.1 hy).1, by rw [List.getD_eq_getElem?_getD, hy]; rfl⟩
  exact (sits_unique hc h1 h2).2
theorem seat_lt {g : Gr} (d : Bool) {c : Int} {v : Int × Int} (h : IsSeat (slotsF g) d c v) : v.1 < (slotsF g).length := by
  by_cases e : ∃ s k, Sits (slotsF g) d c s k
  · obtain ⟨s, k, e⟩ := e
    rw [h.1 s k e]
    obtain ⟨x, hx, _⟩ := e
    have := (List.getElem?_eq_some_iff.1 hx).1
    show ((s : Nat) : Int) < _
    omega
  · rw [h.2 fun s k q => e ⟨s, k, q⟩]
    show (-1 : Int) < _
    omega
theorem board_of {g : Gr} {W : List (List Int)} {M : List Nat} (h : checkP ⟨g, W, M⟩ = 0) (hM : Smalls M) : Board W (slotsF g) M.length (seatsF g).1 (seatsF g).2 ∧ (seatsF g).1.length = M.length ∧ (seatsF g).2.length = M.length := by
  obtain ⟨h1, h2, h3, h4⟩ := checkP_zero h
  have F := fine_of h hM
  simp only at h1 h2 h3 h4
  have hl := (seats_are (g := g) h1 (c := 0) (by omega)).2.2
  have hlt : ∀ c : Nat, ((seatsF g).1.getD c (-1, 0)).1 < (slotsF g).length ∧ ((seatsF g).2.getD c (-1, 0)).1 < (slotsF g).length := fun c => by
    have q := seats_are (g := g) h1 (c := (c : Int)) (by omega)
    have q1 := seat_lt false q.1
    have q2 := seat_lt true q.2.1
    unfold sAt at q1 q2
    rw [Int.toNat_natCast] at q1 q2
    exact ⟨q1, q2⟩
  refine ⟨⟨fun w hw => (h3 w hw).2.2, fun j hj => (F.cells _ (getD_in hj)).2, fun j hj => once_slot h1 (getD_in hj), fun j hj c hc => ?_, fun c => (hlt c).1, fun c => (hlt c).2⟩, by omega, by omega⟩
  have hs : sAtN (slotsF g) j ∈ slotsF g := getD_in hj
  have hin := slots_in h1 _ hs c hc
  have q := seats_are (g := g) h1 (c := c) hin.1
  obtain ⟨k, hk, hkc⟩ := List.getElem_of_mem hc
  have hsit : Sits (slotsF g) (sAtN (slotsF g) j).2.1 c j k := ⟨sAtN (slotsF g) j, by
    unfold sAtN
    rw [List.getD_eq_getElem?_getD, List.getElem?_eq_getElem hj]
    rfl, rfl, hk, by rw [List.getD_eq_getElem?_getD, List.getElem?_eq_getElem hk, hkc]; rfl⟩
  cases hd : (sAtN (slotsF g) j).2.1 with
  | false =>
    rw [hd] at hsit
    left
    have := q.1.1 j k hsit
    unfold sAt at this
    rw [this]
  | true =>
    rw [hd] at hsit
    right
    have := q.2.1.1 j k hsit
    unfold sAt at this
    rw [this]
theorem inv_start {W : List (List Int)} {S : List Slt} {m0 : List Nat} {wt : List Bool} {td : List Int} (q : Queue wt td S.length) (hw : ∀ j, j < S.length → wt.getD j false = true) : Inv W S m0 m0 (mayF W S) wt td := by
  refine ⟨rfl, gfp_leq W S m0, Leq.refl m0, may_len W S, fun j hj => ?_, fun j hj h => (by rw [hw j hj] at h; cases h), q⟩
  refine ⟨fun w => w.length == (sAtN S j).2.2.length, ?_, fun w hw => ?_, fun w hw => by simpa using hw⟩
  · simp [mayF, List.getD_eq_getElem?_getD, hj, sAtN]
  · have := ((fit_iff _ _ _).1 hw).1
    simpa using this
theorem Inv.look {W : List (List Int)} {S : List Slt} {m0 m : List Nat} {ms : List (List Int)} {wt : List Bool} {s : Int} {td : List Int} {A D : List (Int × Int)} (B : Board W S m0.length A D) (F : Fine W S m0) (I : Inv W S m0 m ms wt (s :: td)) : 0 ≤ s ∧ s < S.length ∧ LookOk W m (slotAt S s).2.2 (ms.getD s.toNat []) := by
  have hs := I.q.mem s List.mem_cons_self
  have hj : s.toNat < S.length := by omega
  obtain ⟨f, hf, hf1, hf2⟩ := I.ok s.toNat hj
  have hc := F.cells _ (getD_in (d := (0, false, [])) hj)
  have hfw := F.words
  refine ⟨hs.1, hs.2.1, ⟨fun i hi => ?_, by omega, ?_, hc.1, fun c h => by rw [I.len]; exact hc.2 c h, leq_small I.hi F.small⟩⟩
  · rw [hf] at hi
    obtain ⟨h1, h2, h3, h4⟩ := idx_word hi
    exact ⟨h1, h2, hf2 _ h4, B.letters _ h3⟩
  · rw [hf]
    have := idx_len f W 0
    omega
def nzB (m : List Nat) (c : Int) : Bool := m.getD c.toNat 0 != 0
def restO (S : List Slt) (m : List Nat) (ms : List (List Int)) : Nat → Int → Bool
  | 0, _ => true
  | z + 1, s => (decide (((ms.getD s.toNat []).length : Int) > 0) && (slotAt S s).2.2.all (nzB m)) && restO S m ms z (s + 1)
theorem restO_iff (S : List Slt) (m : List Nat) (ms : List (List Int)) : ∀ (z : Nat) (s : Int), 0 ≤ s → (restO S m ms z s = true ↔ ∀ j : Nat, s.toNat ≤ j → j < s.toNat + z → (((ms.getD j []).length : Int) > 0 ∧ ∀ c ∈ (sAtN S j).2.2, nzB m c = true))
  | 0, s, _ => by simp [restO]; intros; omega
  | z + 1, s, h => by
    simp only [restO, Bool.and_eq_true, restO_iff S m ms z (s + 1) (by omega), decide_eq_true_eq, List.all_eq_true]
    rw [show (s + 1).toNat = s.toNat + 1 by omega]
    constructor
    · rintro ⟨h1, h2⟩ j hj1 hj2
      by_cases e : j = s.toNat
      · subst e; exact h1
      · exact h2 j (by omega) (by omega)
    · intro h1
      exact ⟨h1 s.toNat (by omega) (by omega), fun j hj1 hj2 => h1 j (by omega) (by omega)⟩
theorem restO_ok {S : List Slt} {m : List Nat} {ms : List (List Int)} (hl : ms.length = S.length) : restO S m ms S.length 0 = okF S m ms := by
  apply Bool.eq_iff_iff.2
  rw [restO_iff S m ms _ _ (by omega)]
  unfold okF
  rw [Bool.and_eq_true, List.all_eq_true, List.all_eq_true]
  constructor
  · intro h
    constructor
    · intro w hw
      obtain ⟨j, hj, e⟩ := List.getElem_of_mem hw
      have := (h j (by simp) (by simp; omega)).1
      rw [List.getD_eq_getElem?_getD, List.getElem?_eq_getElem hj, e] at this
      simpa using this
    · intro s hs
      obtain ⟨j, hj, e⟩ := List.getElem_of_mem hs
      have := (h j (by simp) (by simpa using hj)).2
      rw [show sAtN S j = s by rw [← e]; simp [sAtN, List.getD_eq_getElem?_getD, hj]] at this
      rw [List.all_eq_true]
      exact this
  · rintro ⟨h1, h2⟩ j _ hj
    have hj : j < S.length := by simpa using hj
    constructor
    · have := h1 (ms.getD j []) (getD_in (by omega))
      simpa using this
    · have := h2 (sAtN S j) (getD_in hj)
      rw [List.all_eq_true] at this
      exact this
theorem lost_len (th : List Nat) : ∀ (cs : List Int) (k : Nat) (m : List Nat), (lostL th k cs m).length ≤ cs.length
  | [], _, _ => by simp [lostL]
  | c :: cs, k, m => by
    simp only [lostL]
    split
    · have := lost_len th cs (k + 1) m; simp only [List.length_cons]; omega
    · have := lost_len th cs (k + 1) (m.set c.toNat (m.getD c.toNat 0 &&& th.getD k 0)); simp only [List.length_cons]; omega
theorem slots_900 {g : Gr} (h1 : checkF g = 0) : (slotsF g).length ≤ 900 := by
  have hw := hw_in (chk0.1 h1).1 (chk0.1 h1).2.1
  have hl : (slotsF g).length ≤ 2 * (g.h * g.w).toNat := by
    unfold slotsF
    rw [if_pos h1]
    exact sl_len g _ 0 0
  omega
theorem cnt_rep : ∀ n : Nat, cntT (List.replicate n false) = 0
  | 0 => rfl
  | n + 1 => by rw [List.replicate_succ, cntT, cnt_rep n]; rfl
theorem queue_new (n : Nat) : Queue (List.replicate n false) [] n := by
  refine ⟨by simp, List.nodup_nil, fun s hs => by simp at hs, fun j hj => ?_, by rw [cnt_rep]; rfl⟩
  rw [List.getD_eq_getElem?_getD, List.getElem?_replicate] at hj
  split at hj <;> cases hj
end Go.Proofs.YtnakmganodkliaaAm
set_option maxRecDepth 100000
namespace Go.Proofs.YtnakmganodkliaaAm
open Go
def vq35 (W : List (List Int)) (S : List Slt) (n : Nat) (m : List Nat) (ms : List (List Int)) (C : List Int) (s : Int) (k : Int) (ok : Bool) (G : Nat → St → Prop) (R : D × List (Option Row) × List Row → Prop) : Prop := let yy0 := (Ty.int IntKind.i64); let yy1 := (Row.box 119 [D.sl false false yy0.sl W, D.sl false false (yy0.prod (Ty.bool.prod yy0.sl)) S, D.own 3 0 n (some n), D.own 4 0 ms.length none]); let yy2 := (Row.box 71 [D.v (Value.slice none 0 0), D.v (Value.slice none 0 0), D.v (Value.bool false)]); let yy3 := (Row.nest (NK.mk 46 yy0.sl 0 3 yy0) ms none); let yy4 := (Value.int IntKind.i64 (↑S.length : Int)); let yy5 := (Row.data 80 (Ty.int IntKind.u64) (Mi m)); (decide (k < (↑C.length : Int)) = true → (0 : Int) ≤ k ∧ k < (↑C.length : Int) ∧ (ok = true → (0 : Int) ≤ C.getD k.toNat yy0.dflt ∧ C.getD k.toNat yy0.dflt < (↑n : Int) ∧ 0 + Int.toNat (C.getD k.toNat yy0.dflt) < (Mi m).length ∧ SameK (KK n59 4) (KK n59 4) ∧ G 4 (stOf 143 [2, 5, 15, 99, 100, 101, 121, 122, 123] [D.ptr 0 0 0, D.ptr 1 0 0, D.ptr 2 0 0, D.sl false false (yy0.prod (Ty.bool.prod yy0.sl)) S, D.v yy4, D.v (Value.int IntKind.i64 s), D.sl false false yy0 C, D.v (Value.int IntKind.i64 (↑C.length : Int)), D.v (Value.int IntKind.i64 (IntKind.i64.wrap (k + (1 : Int))))] [Slot.live yy2, Slot.live yy1, Slot.live (Row.box 71 [D.own 3 0 n (some n), D.own 4 0 ms.length none, D.v (Value.bool ((Mi m).getD (0 + Int.toNat (C.getD k.toNat yy0.dflt)) (Ty.int IntKind.u64).dflt != (0 : Int)))]), Slot.live yy5, Slot.live yy3])) ∧ (ok = false → SameK (KK n59 4) (KK n59 4) ∧ G 4 (stOf 143 [2, 5, 15, 99, 100, 101, 121, 122, 123] [D.ptr 0 0 0, D.ptr 1 0 0, D.ptr 2 0 0, D.sl false false (yy0.prod (Ty.bool.prod yy0.sl)) S, D.v yy4, D.v (Value.int IntKind.i64 s), D.sl false false yy0 C, D.v (Value.int IntKind.i64 (↑C.length : Int)), D.v (Value.int IntKind.i64 (IntKind.i64.wrap (k + (1 : Int))))] [Slot.live yy2, Slot.live yy1, Slot.live (Row.box 71 [D.own 3 0 n (some n), D.own 4 0 ms.length none, D.v (Value.bool false)]), Slot.live yy5, Slot.live yy3]))) ∧ (decide (k < (↑C.length : Int)) = false → SameK (KK n59 3) (KK n59 3) ∧ G 3 (stOf 143 [2, 5, 15, 99, 100, 101] [D.ptr 0 0 0, D.ptr 1 0 0, D.ptr 2 0 0, D.sl false false (yy0.prod (Ty.bool.prod yy0.sl)) S, D.v yy4, D.v (Value.int IntKind.i64 (IntKind.i64.wrap (s + (1 : Int))))] [Slot.live yy2, Slot.live yy1, Slot.live (Row.box 71 [D.own 3 0 n (some n), D.own 4 0 ms.length none, D.v (Value.bool ok)]), Slot.live yy5, Slot.live yy3]))
theorem e59d (W : List (List Int)) (S : List Slt) (n : Nat) (m : List Nat) (ms : List (List Int)) (C : List Int) (s : Int) (hm : m.length = n) (s0 : 0 ≤ s) (s1 : s < 1000) (hC : ∀ c ∈ C, 0 ≤ c ∧ c < n) (hc : C.length ≤ 300) (rest : Bool) (rE : Bool) (hx : ∀ ok, rE = (ok && rest) → GetsK Try.prog Try.f59.results.toList [none,none] (KK n59) 0 (.tup [.agg [.own 0 0 n none, .own 1 0 ms.length none, .v (.bool rE)], .v (.int .i64 0)], [], [.data 80 (.int .u64) (Mi m), .nest kW ms none]) 3 (stOf 143 [2,5,15,99,100,101] [.ptr 0 0 0, .ptr 1 0 0, .ptr 2 0 0, slS S, .v (.int .i64 S.length), .v (.int .i64 (s + 1))] [.live (.box 71 [.v (.slice none 0 0), .v (.slice none 0 0), .v (.bool false)]), .live (.box 119 [slW W, slS S, .own 3 0 n (some n), .own 4 0 ms.length none]), .live (.box 71 [.own 3 0 n (some n), .own 4 0 ms.length none, .v (.bool ok)]), .live (.data 80 (.int .u64) (Mi m)), .live (.nest kW ms none)])) (z : Nat) : ∀ (k : Int) (ok : Bool), 0 ≤ k → k + z = C.length → rE = ((ok && (C.drop k.toNat).all (nzB m)) && rest) → GetsK Try.prog Try.f59.results.toList [none,none] (KK n59) 0 (.tup [.agg [.own 0 0 n none, .own 1 0 ms.length none, .v (.bool rE)], .v (.int .i64 0)], [], [.data 80 (.int .u64) (Mi m), .nest kW ms none]) 4 (stOf 143 [2,5,15,99,100,101,121,122,123] [.ptr 0 0 0, .ptr 1 0 0, .ptr 2 0 0, slS S, .v (.int .i64 S.length), .v (.int .i64 s), slI C, .v (.int .i64 C.length), .v (.int .i64 k)] [.live (.box 71 [.v (.slice none 0 0), .v (.slice none 0 0), .v (.bool false)]), .live (.box 119 [slW W, slS S, .own 3 0 n (some n), .own 4 0 ms.length none]), .live (.box 71 [.own 3 0 n (some n), .own 4 0 ms.length none, .v (.bool ok)]), .live (.data 80 (.int .u64) (Mi m)), .live (.nest kW ms none)]) := by
  have hs1 : IntKind.i64.wrap (s + 1) = s + 1 := wrG (by omega) (by omega)
  induction z with
  | zero =>
    intro k ok k0 hk hr
    rw [List.drop_eq_nil_of_le (by omega)] at hr
    have h1 := hx ok (by rw [hr]; simp)
    refine gets_vc (flag [2000115] spNa) (fun k => [[2,5,6,7,8,9,10,45,46],[2,5,6,7,8,9,10],[2,5,6,7,8,9,10,66,67,68],[2,5,15,99,100,101],[2,5,15,99,100,101,121,122,123]].getD k []) (fun k => if k < 3 then [⟨1000000008, 3, .int .i64⟩] else if k = 99 then [⟨1000000002, 80, .int .u64⟩, ⟨4010002, 46, WT⟩] else []) 400 (.fork (.fork (.hd 4) (.hd 4)) (.hd 3)) (V := vq35 W S n m ms C s k ok) hmG (fun G R => by kernel_rfl) ?_
    unfold vq35
    try dsimp only
    simp only [hs1]
    simp (disch := omega) only [wrG, sameK_iff, true_and, and_true, decide_eq_true_eq, decide_eq_false_iff_not, ne_eq, not_false_eq_true, Bool.false_eq_true, Bool.true_eq_false, false_implies, true_implies, Ty.dflt, reduceCtorEq, beq_iff_eq, bne_iff_ne, beq_eq_false_iff_ne, bne_eq_false_iff_eq, Bool.not_eq_true, Bool.not_eq_eq_eq_not, Bool.not_true, Bool.not_false, gt_iff_lt, ge_iff_le, Int.not_lt, Int.not_le]
    repeat' (first | with_reducible refine And.intro ?_ ?_ | intro _)
    all_goals first | rfl | omega | assumption | trivial | (exfalso; simp_all; done) | (exfalso; omega) | skip
  | succ z ih =>
    intro k ok k0 hk hr
    have hk1 : IntKind.i64.wrap (k + 1) = k + 1 := wrG (by omega) (by omega)
    rw [drop_at (xs := C) (i := k) (0 : Int) k0 (by omega)] at hr
    simp only [List.all_cons] at hr
    have hcc := hC _ (getD_in (d := 0) (k := k.toNat) (l := C) (by omega))
    have ih2 := fun ok' => ih (k + 1) ok' (by omega) (by omega)
    refine gets_vc (flag [2000115] spNa) (fun k => [[2,5,6,7,8,9,10,45,46],[2,5,6,7,8,9,10],[2,5,6,7,8,9,10,66,67,68],[2,5,15,99,100,101],[2,5,15,99,100,101,121,122,123]].getD k []) (fun k => if k < 3 then [⟨1000000008, 3, .int .i64⟩] else if k = 99 then [⟨1000000002, 80, .int .u64⟩, ⟨4010002, 46, WT⟩] else []) 400 (.fork (.fork (.hd 4) (.hd 4)) (.hd 3)) (V := vq35 W S n m ms C s k ok) hmG (fun G R => by kernel_rfl) ?_
    unfold vq35
    try dsimp only
    simp only [Ty.dflt, hk1, take_len, List.drop_zero, List.take_length, Mi_getD, Mi_len, Nt_Mi, Int.toNat_natCast, Mi_set, Nat.zero_add, Nat.sub_zero, set_same, cast_bne0, List.length_set]
    cases ok with
    | false =>
      have h1 := ih2 false (by rw [hr]; rfl)
      simp (disch := omega) only [wrG, sameK_iff, true_and, and_true, decide_eq_true_eq, decide_eq_false_iff_not, ne_eq, not_false_eq_true, Bool.false_eq_true, Bool.true_eq_false, false_implies, true_implies, Ty.dflt, reduceCtorEq, beq_iff_eq, bne_iff_ne, beq_eq_false_iff_ne, bne_eq_false_iff_eq, Bool.not_eq_true, Bool.not_eq_eq_eq_not, Bool.not_true, Bool.not_false, gt_iff_lt, ge_iff_le, Int.not_lt, Int.not_le]
      repeat' (first | with_reducible refine And.intro ?_ ?_ | intro _)
      all_goals first | rfl | omega | assumption | trivial | (exfalso; simp_all; done) | (exfalso; omega) | skip
    | true =>
      have h1 := ih2 (m.getD (C.getD k.toNat 0).toNat 0 != 0) (by rw [hr, Bool.true_and]; rfl)
      simp (disch := omega) only [wrG, sameK_iff, true_and, and_true, decide_eq_true_eq, decide_eq_false_iff_not, ne_eq, not_false_eq_true, Bool.false_eq_true, Bool.true_eq_false, false_implies, true_implies, Ty.dflt, reduceCtorEq, beq_iff_eq, bne_iff_ne, beq_eq_false_iff_ne, bne_eq_false_iff_eq, Bool.not_eq_true, Bool.not_eq_eq_eq_not, Bool.not_true, Bool.not_false, gt_iff_lt, ge_iff_le, Int.not_lt, Int.not_le]
      repeat' (first | with_reducible refine And.intro ?_ ?_ | intro _)
      all_goals first | rfl | omega | assumption | trivial | (exfalso; simp_all; done) | (exfalso; omega) | skip
def vq36 (W : List (List Int)) (S : List Slt) (n : Nat) (m : List Nat) (ms : List (List Int)) (s : Int) (ok : Bool) (G : Nat → St → Prop) (R : D × List (Option Row) × List Row → Prop) : Prop := let yy0 := (Ty.int IntKind.i64); let yy1 := (yy0.prod (Ty.bool.prod yy0.sl)); let yy2 := (Row.box 119 [D.sl false false yy0.sl W, D.sl false false yy1 S, D.own 3 0 n (some n), D.own 4 0 ms.length none]); let yy3 := (NK.mk 46 yy0.sl 0 3 yy0); let yy4 := (Row.box 71 [D.v (Value.slice none 0 0), D.v (Value.slice none 0 0), D.v (Value.bool false)]); let yy5 := (Value.int IntKind.i64 (↑(List.length (S.getD s.toNat yy1.dflt).snd.snd) : Int)); (decide (s < (↑S.length : Int)) = true → (0 : Int) ≤ s ∧ s < (↑S.length : Int) ∧ (ok = true → (0 : Int) ≤ s ∧ s < (↑ms.length : Int) ∧ 0 + s.toNat < ms.length ∧ SameK (KK n59 4) (KK n59 4) ∧ G 4 (stOf 143 [2, 5, 15, 99, 100, 101, 121, 122, 123] [D.ptr 0 0 0, D.ptr 1 0 0, D.ptr 2 0 0, D.sl false false yy1 S, D.v (Value.int IntKind.i64 (↑S.length : Int)), D.v (Value.int IntKind.i64 s), D.sl false false yy0 (S.getD s.toNat yy1.dflt).snd.snd, D.v yy5, D.v (Value.int IntKind.i64 (0 : Int))] [Slot.live yy4, Slot.live yy2, Slot.live (Row.box 71 [D.own 3 0 n (some n), D.own 4 0 ms.length none, D.v (Value.bool (decide ((↑(List.length (ms.getD (0 + s.toNat) yy3.t.dflt)) : Int) > (0 : Int))))]), Slot.live (Row.data 80 (Ty.int IntKind.u64) (Mi m)), Slot.live (Row.nest yy3 (ms.set (0 + s.toNat) (List.take (List.length (ms.getD (0 + s.toNat) yy3.t.dflt)) (ms.getD (0 + s.toNat) yy3.t.dflt))) none)])) ∧ (ok = false → SameK (KK n59 4) (KK n59 4) ∧ G 4 (stOf 143 [2, 5, 15, 99, 100, 101, 121, 122, 123] [D.ptr 0 0 0, D.ptr 1 0 0, D.ptr 2 0 0, D.sl false false yy1 S, D.v (Value.int IntKind.i64 (↑S.length : Int)), D.v (Value.int IntKind.i64 s), D.sl false false yy0 (S.getD s.toNat yy1.dflt).snd.snd, D.v yy5, D.v (Value.int IntKind.i64 (0 : Int))] [Slot.live yy4, Slot.live yy2, Slot.live (Row.box 71 [D.own 3 0 n (some n), D.own 4 0 ms.length none, D.v (Value.bool false)]), Slot.live (Row.data 80 (Ty.int IntKind.u64) (Mi m)), Slot.live (Row.nest yy3 ms none)]))) ∧ (decide (s < (↑S.length : Int)) = false → R (D.tup [D.agg [D.own 0 0 n none, D.own 1 0 ms.length none, D.v (Value.bool ok)], D.v (Value.int IntKind.i64 (0 : Int))], [], [Row.data 80 (Ty.int IntKind.u64) (List.take n (List.drop 0 (Mi m))), Row.nest yy3 ms none]))
theorem e59c (W : List (List Int)) (S : List Slt) (n : Nat) (m : List Nat) (ms : List (List Int)) (hm : m.length = n) (hms : ms.length = S.length) (hS : S.length ≤ 900) (hcell : ∀ j, j < S.length → (sAtN S j).2.2.length ≤ 300 ∧ ∀ c ∈ (sAtN S j).2.2, 0 ≤ c ∧ c < n) (rE : Bool) (z : Nat) : ∀ (s : Int) (ok : Bool), 0 ≤ s → s + z = S.length → rE = (ok && restO S m ms z s) → GetsK Try.prog Try.f59.results.toList [none,none] (KK n59) 0 (.tup [.agg [.own 0 0 n none, .own 1 0 ms.length none, .v (.bool rE)], .v (.int .i64 0)], [], [.data 80 (.int .u64) (Mi m), .nest kW ms none]) 3 (stOf 143 [2,5,15,99,100,101] [.ptr 0 0 0, .ptr 1 0 0, .ptr 2 0 0, slS S, .v (.int .i64 S.length), .v (.int .i64 s)] [.live (.box 71 [.v (.slice none 0 0), .v (.slice none 0 0), .v (.bool false)]), .live (.box 119 [slW W, slS S, .own 3 0 n (some n), .own 4 0 ms.length none]), .live (.box 71 [.own 3 0 n (some n), .own 4 0 ms.length none, .v (.bool ok)]), .live (.data 80 (.int .u64) (Mi m)), .live (.nest kW ms none)]) := by
  have ht : (Mi m).take n = Mi m := by rw [← hm]; exact Mi_take m
  induction z with
  | zero =>
    intro s ok s0 hs hr
    have hr : rE = ok := by rw [hr]; simp [restO]
    rw [hr]
    refine gets_vc (flag [2000115] spNa) (fun k => [[2,5,6,7,8,9,10,45,46],[2,5,6,7,8,9,10],[2,5,6,7,8,9,10,66,67,68],[2,5,15,99,100,101],[2,5,15,99,100,101,121,122,123]].getD k []) (fun k => if k < 3 then [⟨1000000008, 3, .int .i64⟩] else if k = 99 then [⟨1000000002, 80, .int .u64⟩, ⟨4010002, 46, WT⟩] else []) 400 (.fork (.fork (.hd 4) (.hd 4)) .stop) (V := vq36 W S n m ms s ok) hmG (fun G R => by kernel_rfl) ?_
    unfold vq36
    try dsimp only
    simp only [List.drop_zero, ht]
    simp (disch := omega) only [wrG, sameK_iff, true_and, and_true, decide_eq_true_eq, decide_eq_false_iff_not, ne_eq, not_false_eq_true, Bool.false_eq_true, Bool.true_eq_false, false_implies, true_implies, Ty.dflt, reduceCtorEq, beq_iff_eq, bne_iff_ne, beq_eq_false_iff_ne, bne_eq_false_iff_eq, Bool.not_eq_true, Bool.not_eq_eq_eq_not, Bool.not_true, Bool.not_false, gt_iff_lt, ge_iff_le, Int.not_lt, Int.not_le]
    repeat' (first | with_reducible refine And.intro ?_ ?_ | intro _)
    all_goals first | rfl | omega | assumption | trivial | (exfalso; simp_all; done) | (exfalso; omega) | skip
  | succ z ih =>
    intro s ok s0 hs hr
    obtain ⟨C, hC⟩ : ∃ C, (S.getD s.toNat (0, false, [])).2.2 = C := ⟨_, rfl⟩
    have hc1 := hcell s.toNat (by omega)
    unfold sAtN at hc1
    rw [hC] at hc1
    simp only [restO, slotAt, hC] at hr
    have ih2 := fun ok' => ih (s + 1) ok' (by omega) (by omega)
    have hd := fun ok' hr' => e59d W S n m ms C s hm s0 (by omega) hc1.2 hc1.1 (restO S m ms z (s + 1)) rE ih2 C.length 0 ok' (by omega) (by omega) hr'
    simp only [show (0 : Int).toNat = 0 by rfl, List.drop_zero] at hd
    refine gets_vc (flag [2000115] spNa) (fun k => [[2,5,6,7,8,9,10,45,46],[2,5,6,7,8,9,10],[2,5,6,7,8,9,10,66,67,68],[2,5,15,99,100,101],[2,5,15,99,100,101,121,122,123]].getD k []) (fun k => if k < 3 then [⟨1000000008, 3, .int .i64⟩] else if k = 99 then [⟨1000000002, 80, .int .u64⟩, ⟨4010002, 46, WT⟩] else []) 400 (.fork (.fork (.hd 4) (.hd 4)) .stop) (V := vq36 W S n m ms s ok) hmG (fun G R => by kernel_rfl) ?_
    unfold vq36
    try dsimp only
    simp only [Ty.dflt, hC, take_len, List.drop_zero, List.take_length, Mi_getD, Mi_len, Nt_Mi, Int.toNat_natCast, Mi_set, Nat.zero_add, Nat.sub_zero, set_same, cast_bne0, List.length_set]
    cases ok with
    | false =>
      have h1 := hd false (by rw [hr]; simp)
      simp (disch := omega) only [wrG, sameK_iff, true_and, and_true, decide_eq_true_eq, decide_eq_false_iff_not, ne_eq, not_false_eq_true, Bool.false_eq_true, Bool.true_eq_false, false_implies, true_implies, Ty.dflt, reduceCtorEq, beq_iff_eq, bne_iff_ne, beq_eq_false_iff_ne, bne_eq_false_iff_eq, Bool.not_eq_true, Bool.not_eq_eq_eq_not, Bool.not_true, Bool.not_false, gt_iff_lt, ge_iff_le, Int.not_lt, Int.not_le]
      repeat' (first | with_reducible refine And.intro ?_ ?_ | intro _)
      all_goals first | rfl | omega | assumption | trivial | (exfalso; simp_all; done) | (exfalso; omega) | skip
    | true =>
      have h1 := hd (decide (((ms.getD s.toNat []).length : Int) > 0)) (by rw [hr, Bool.true_and])
      simp (disch := omega) only [wrG, sameK_iff, true_and, and_true, decide_eq_true_eq, decide_eq_false_iff_not, ne_eq, not_false_eq_true, Bool.false_eq_true, Bool.true_eq_false, false_implies, true_implies, Ty.dflt, reduceCtorEq, beq_iff_eq, bne_iff_ne, beq_eq_false_iff_ne, bne_eq_false_iff_eq, Bool.not_eq_true, Bool.not_eq_eq_eq_not, Bool.not_true, Bool.not_false, gt_iff_lt, ge_iff_le, Int.not_lt, Int.not_le]
      repeat' (first | with_reducible refine And.intro ?_ ?_ | intro _)
      all_goals first | rfl | omega | assumption | trivial | (exfalso; simp_all; done) | (exfalso; omega) | skip
def vq37 (W : List (List Int)) (S : List Slt) (A : List (Int × Int)) (Z : List (Int × Int)) (n : Nat) (N : Nat) (m : List Nat) (ms : List (List Int)) (lo : List Int) (k : Int) (wt : List Bool) (td : List Int) (G : Nat → St → Prop) (R : D × List (Option Row) × List Row → Prop) : Prop := let yy0 := (putF wt td (A.getD (0 + Int.toNat (lo.getD (0 + k.toNat) (Ty.int IntKind.i64).dflt)) ((Ty.int IntKind.i64).prod (Ty.int IntKind.i64)).dflt).fst); let yy1 := (Ty.int IntKind.i64); let yy2 := (Z.getD (0 + Int.toNat (lo.getD (0 + k.toNat) yy1.dflt)) (yy1.prod yy1).dflt); let yy3 := (putF yy0.fst yy0.snd yy2.fst); let yy4 := (A.getD (0 + Int.toNat (lo.getD (0 + k.toNat) yy1.dflt)) (yy1.prod yy1).dflt); let yy5 := (Row.box 32 [D.own 10 0 N (some N)]); let yy6 := (Row.box 71 [D.v (Value.slice none 0 0), D.v (Value.slice none 0 0), D.v (Value.bool false)]); (decide (k < (↑lo.length : Int)) = true → (0 : Int) ≤ k ∧ k < (↑lo.length : Int) ∧ 0 + k.toNat < lo.length ∧ (0 : Int) ≤ lo.getD (0 + k.toNat) yy1.dflt ∧ lo.getD (0 + k.toNat) yy1.dflt < (↑A.length : Int) ∧ 0 + Int.toNat (lo.getD (0 + k.toNat) yy1.dflt) < A.length ∧ Con Try.prog 98 [Row.box 32 [D.own 1 0 N (some N)], Row.data 4 Ty.bool wt, Row.box 46 [D.own 3 0 td.length none], Row.data 3 yy1 td] [D.v (Value.int IntKind.i64 yy4.fst), D.ptr 0 0 0, D.ptr 2 0 0] (D.tup []) [some (Row.box 32 [D.own 1 0 N (some N)]), some (Row.data 4 Ty.bool yy0.fst), some (Row.box 46 [D.own 4 0 yy0.snd.length none]), none] [Row.data 3 yy1 yy0.snd] ∧ Value.int IntKind.i64 yy4.fst = Value.int IntKind.i64 yy4.fst ∧ 5 = 5 ∧ 0 = 0 ∧ 0 = 0 ∧ 4 = 4 ∧ 0 = 0 ∧ 0 = 0 ∧ yy0.fst.length = wt.length ∧ some yy5 = some yy5 ∧ some (Row.data 4 Ty.bool wt) = some (Row.data 4 Ty.bool wt) ∧ some (Row.box 46 [D.own 9 0 td.length none]) = some (Row.box 46 [D.own 9 0 td.length none]) ∧ some (Row.data 3 yy1 td) = some (Row.data 3 yy1 td) ∧ (0 : Int) ≤ lo.getD (0 + k.toNat) yy1.dflt ∧ lo.getD (0 + k.toNat) yy1.dflt < (↑Z.length : Int) ∧ 0 + Int.toNat (lo.getD (0 + k.toNat) yy1.dflt) < Z.length ∧ Con Try.prog 98 [Row.box 32 [D.own 1 0 N (some N)], Row.data 4 Ty.bool yy0.fst, Row.box 46 [D.own 3 0 yy0.snd.length none], Row.data 3 yy1 yy0.snd] [D.v (Value.int IntKind.i64 yy2.fst), D.ptr 0 0 0, D.ptr 2 0 0] (D.tup []) [some (Row.box 32 [D.own 1 0 N (some N)]), some (Row.data 4 Ty.bool yy3.fst), some (Row.box 46 [D.own 4 0 yy3.snd.length none]), none] [Row.data 3 yy1 yy3.snd] ∧ Value.int IntKind.i64 yy2.fst = Value.int IntKind.i64 yy2.fst ∧ 5 = 5 ∧ 0 = 0 ∧ 0 = 0 ∧ 4 = 4 ∧ 0 = 0 ∧ 0 = 0 ∧ yy3.fst.length = yy0.fst.length ∧ some yy5 = some yy5 ∧ some (Row.data 4 Ty.bool yy0.fst) = some (Row.data 4 Ty.bool yy0.fst) ∧ some (Row.box 46 [D.own 11 0 yy0.snd.length none]) = some (Row.box 46 [D.own 11 0 yy0.snd.length none]) ∧ some (Row.data 3 yy1 yy0.snd) = some (Row.data 3 yy1 yy0.snd) ∧ SameK (KK n59 2) (KK n59 2) ∧ G 2 (stOf 143 [2, 5, 6, 7, 8, 9, 10, 66, 67, 68] [D.ptr 0 0 0, D.ptr 1 0 0, D.own 2 0 A.length none, D.own 3 0 Z.length none, D.ptr 4 0 0, D.ptr 5 0 0, D.fn 98 [D.ptr 5 0 0, D.ptr 4 0 0], D.own 6 0 lo.length none, D.v (Value.int IntKind.i64 (↑lo.length : Int)), D.v (Value.int IntKind.i64 (IntKind.i64.wrap (k + (1 : Int))))] [Slot.live yy6, Slot.live (Row.box 119 [D.sl false false yy1.sl W, D.sl false false (yy1.prod (Ty.bool.prod yy1.sl)) S, D.own 7 0 n (some n), D.own 8 0 ms.length none]), Slot.live (Row.data 104 (yy1.prod yy1) A), Slot.live (Row.data 104 (yy1.prod yy1) Z), Slot.live (Row.box 46 [D.own 9 0 yy3.snd.length none]), Slot.live yy5, Slot.live (Row.data 3 yy1 lo), Slot.live (Row.data 80 (Ty.int IntKind.u64) (Mi m)), Slot.live (Row.nest (NK.mk 46 yy1.sl 0 3 yy1) ms none), Slot.live (Row.data 3 yy1 (List.take yy3.snd.length (List.drop 0 yy3.snd))), Slot.live (Row.data 4 Ty.bool yy3.fst)])) ∧ (decide (k < (↑lo.length : Int)) = false → SameK (KK n59 1) (KK n59 1) ∧ G 1 (stOf 143 [2, 5, 6, 7, 8, 9, 10] [D.ptr 0 0 0, D.ptr 1 0 0, D.own 2 0 A.length none, D.own 3 0 Z.length none, D.ptr 4 0 0, D.ptr 5 0 0, D.fn 98 [D.ptr 5 0 0, D.ptr 4 0 0]] [Slot.live yy6, Slot.live (Row.box 119 [D.sl false false yy1.sl W, D.sl false false (yy1.prod (Ty.bool.prod yy1.sl)) S, D.own 6 0 n (some n), D.own 7 0 ms.length none]), Slot.live (Row.data 104 (yy1.prod yy1) A), Slot.live (Row.data 104 (yy1.prod yy1) Z), Slot.live (Row.box 46 [D.own 8 0 td.length none]), Slot.live (Row.box 32 [D.own 9 0 N (some N)]), Slot.live (Row.data 80 (Ty.int IntKind.u64) (Mi m)), Slot.live (Row.nest (NK.mk 46 yy1.sl 0 3 yy1) ms none), Slot.live (Row.data 3 yy1 (List.take td.length (List.drop 0 td))), Slot.live (Row.data 4 Ty.bool wt)]))
theorem e59b (W : List (List Int)) (S : List Slt) (A Z : List (Int × Int)) (n N : Nat) (m : List Nat) (ms : List (List Int)) (lo : List Int) (hN : N ≤ 900) (hlo : lo.length ≤ 300) (hA : A.length = n) (hZ : Z.length = n) (hl : ∀ c ∈ lo, 0 ≤ c ∧ c < n) (iA : ∀ c : Nat, (A.getD c (-1, 0)).1 < N) (iZ : ∀ c : Nat, (Z.getD c (-1, 0)).1 < N) (tE : List Int) (wE : List Bool) (mE : List Nat) (sE : List (List Int)) (rE : Bool) (hx : GetsK Try.prog Try.f59.results.toList [none,none] (KK n59) 0 (.tup [.agg [.own 0 0 n none, .own 1 0 sE.length none, .v (.bool rE)], .v (.int .i64 0)], [], [.data 80 (.int .u64) (Mi mE), .nest kW sE none]) 1 (stOf 143 [2,5,6,7,8,9,10] [.ptr 0 0 0, .ptr 1 0 0, .own 2 0 A.length none, .own 3 0 Z.length none, .ptr 4 0 0, .ptr 5 0 0, .fn 98 [.ptr 5 0 0, .ptr 4 0 0]] [.live (.box 71 [.v (.slice none 0 0), .v (.slice none 0 0), .v (.bool false)]), .live (.box 119 [slW W, slS S, .own 6 0 n (some n), .own 7 0 ms.length none]), .live (.data 104 SeT A), .live (.data 104 SeT Z), .live (.box 46 [.own 8 0 tE.length none]), .live (.box 32 [.own 9 0 N (some N)]), .live (.data 80 (.int .u64) (Mi m)), .live (.nest kW ms none), .live (.data 3 (.int .i64) tE), .live (.data 4 .bool wE)])) (z : Nat) : ∀ (k : Int) (wt : List Bool) (td : List Int), 0 ≤ k → k + z = lo.length → Queue wt td N → putsF A Z (lo.drop k.toNat) (wt, td) = (wE, tE) → GetsK Try.prog Try.f59.results.toList [none,none] (KK n59) 0 (.tup [.agg [.own 0 0 n none, .own 1 0 sE.length none, .v (.bool rE)], .v (.int .i64 0)], [], [.data 80 (.int .u64) (Mi mE), .nest kW sE none]) 2 (stOf 143 [2,5,6,7,8,9,10,66,67,68] [.ptr 0 0 0, .ptr 1 0 0, .own 2 0 A.length none, .own 3 0 Z.length none, .ptr 4 0 0, .ptr 5 0 0, .fn 98 [.ptr 5 0 0, .ptr 4 0 0], .own 6 0 lo.length none, .v (.int .i64 lo.length), .v (.int .i64 k)] [.live (.box 71 [.v (.slice none 0 0), .v (.slice none 0 0), .v (.bool false)]), .live (.box 119 [slW W, slS S, .own 7 0 n (some n), .own 8 0 ms.length none]), .live (.data 104 SeT A), .live (.data 104 SeT Z), .live (.box 46 [.own 9 0 td.length none]), .live (.box 32 [.own 10 0 N (some N)]), .live (.data 3 (.int .i64) lo), .live (.data 80 (.int .u64) (Mi m)), .live (.nest kW ms none), .live (.data 3 (.int .i64) td), .live (.data 4 .bool wt)]) := by
  induction z with
  | zero =>
    intro k wt td k0 hk q he
    rw [List.drop_eq_nil_of_le (by omega)] at he
    have he : (wt, td) = (wE, tE) := he
    rw [Prod.mk.injEq] at he
    obtain ⟨rfl, rfl⟩ := he
    refine gets_vc (flag [2000115] spNa) (fun k => [[2,5,6,7,8,9,10,45,46],[2,5,6,7,8,9,10],[2,5,6,7,8,9,10,66,67,68],[2,5,15,99,100,101],[2,5,15,99,100,101,121,122,123]].getD k []) (fun k => if k < 3 then [⟨1000000008, 3, .int .i64⟩] else if k = 99 then [⟨1000000002, 80, .int .u64⟩, ⟨4010002, 46, WT⟩] else []) 400 (.fork (.hd 2) (.hd 1)) (V := vq37 W S A Z n N m ms lo k wt td) hmG (fun G R => by kernel_rfl) ?_
    unfold vq37
    try dsimp only
    simp only [List.drop_zero, List.take_length]
    simp (disch := omega) only [wrG, sameK_iff, true_and, and_true, decide_eq_true_eq, decide_eq_false_iff_not, ne_eq, not_false_eq_true, Bool.false_eq_true, Bool.true_eq_false, false_implies, true_implies, Ty.dflt, reduceCtorEq, beq_iff_eq, bne_iff_ne, beq_eq_false_iff_ne, bne_eq_false_iff_eq, Bool.not_eq_true, Bool.not_eq_eq_eq_not, Bool.not_true, Bool.not_false, gt_iff_lt, ge_iff_le, Int.not_lt, Int.not_le]
    repeat' (first | with_reducible refine And.intro ?_ ?_ | intro _)
    all_goals first | rfl | omega | assumption | trivial | (exfalso; simp_all; done) | (exfalso; omega) | skip
  | succ z ih =>
    intro k wt td k0 hk q he
    have hk1 : IntKind.i64.wrap (k + 1) = k + 1 := wrG (by omega) (by omega)
    rw [drop_at (xs := lo) (i := k) (0 : Int) k0 (by omega)] at he
    simp only [putsF] at he
    have hc := hl _ (getD_in (d := 0) (k := k.toNat) (l := lo) (by omega))
    obtain ⟨c, hcc⟩ : ∃ c, lo.getD k.toNat 0 = c := ⟨_, rfl⟩
    rw [hcc] at he hc
    have a0 : (A.getD c.toNat (0, 0)) = A.getD c.toNat (-1, 0) := by
      rw [List.getD_eq_getElem?_getD, List.getD_eq_getElem?_getD, List.getElem?_eq_getElem (by omega)]
      rfl
    have z0 : (Z.getD c.toNat (0, 0)) = Z.getD c.toNat (-1, 0) := by
      rw [List.getD_eq_getElem?_getD, List.getD_eq_getElem?_getD, List.getElem?_eq_getElem (by omega)]
      rfl
    obtain ⟨q1, _, _⟩ := put_queue q (iA c.toNat)
    obtain ⟨q2, _, _⟩ := put_queue q1 (iZ c.toNat)
    have l0 := q.long
    have l1 := q1.long
    have c1 := d98 (A.getD c.toNat (-1, 0)).1 N td.length wt td q.len rfl (iA _) (by omega)
    have c2 := d98 (Z.getD c.toNat (-1, 0)).1 N (putF wt td (A.getD c.toNat (-1, 0)).1).2.length (putF wt td (A.getD c.toNat (-1, 0)).1).1 (putF wt td (A.getD c.toNat (-1, 0)).1).2 q1.len rfl (iZ _) (by omega)
    have h1 := ih (k + 1) _ _ (by omega) (by omega) q2 he
    have n1 : (putF wt td (A.getD c.toNat (-1, 0)).1).1.length = wt.length := by rw [q1.len, q.len]
    have n2 : (putF (putF wt td (A.getD c.toNat (-1, 0)).1).1 (putF wt td (A.getD c.toNat (-1, 0)).1).2 (Z.getD c.toNat (-1, 0)).1).1.length = (putF wt td (A.getD c.toNat (-1, 0)).1).1.length := by rw [q2.len, q1.len]
    refine gets_vc (flag [2000115] spNa) (fun k => [[2,5,6,7,8,9,10,45,46],[2,5,6,7,8,9,10],[2,5,6,7,8,9,10,66,67,68],[2,5,15,99,100,101],[2,5,15,99,100,101,121,122,123]].getD k []) (fun k => if k < 3 then [⟨1000000008, 3, .int .i64⟩] else if k = 99 then [⟨1000000002, 80, .int .u64⟩, ⟨4010002, 46, WT⟩] else []) 400 (.fork (.hd 2) (.hd 1)) (V := vq37 W S A Z n N m ms lo k wt td) hmG (fun G R => by kernel_rfl) ?_
    unfold vq37
    try dsimp only
    simp only [Ty.dflt, hk1, Nat.zero_add, hcc, a0, z0, List.drop_zero, List.take_length]
    simp (disch := omega) only [wrG, sameK_iff, true_and, and_true, decide_eq_true_eq, decide_eq_false_iff_not, ne_eq, not_false_eq_true, Bool.false_eq_true, Bool.true_eq_false, false_implies, true_implies, Ty.dflt, reduceCtorEq, beq_iff_eq, bne_iff_ne, beq_eq_false_iff_ne, bne_eq_false_iff_eq, Bool.not_eq_true, Bool.not_eq_eq_eq_not, Bool.not_true, Bool.not_false, gt_iff_lt, ge_iff_le, Int.not_lt, Int.not_le]
    repeat' (first | with_reducible refine And.intro ?_ ?_ | intro _)
    all_goals first | rfl | omega | assumption | trivial | (exfalso; simp_all; done) | (exfalso; omega) | skip
theorem e59a (W : List (List Int)) (S : List Slt) (A Z : List (Int × Int)) (n : Nat) (m0 : List Nat) (hn : m0.length = n) (F : Fine W S m0) (hS : S.length ≤ 900) (B : Board W S m0.length A Z) (hA : A.length = n) (hZ : Z.length = n) (N : Nat) (hN : N = S.length) (mE : List Nat) (sE : List (List Int)) (rE : Bool) (h1 : mE = gfpF W S m0) (h2 : sE = wordsF W S mE) (h3 : rE = okF S mE sE) (q : Nat) : ∀ (m : List Nat) (ms : List (List Int)) (wt : List Bool) (td : List Int), m.sum * (S.length + 1) + td.length < q → Inv W S m0 m ms wt td → GetsK Try.prog Try.f59.results.toList [none,none] (KK n59) 0 (.tup [.agg [.own 0 0 n none, .own 1 0 sE.length none, .v (.bool rE)], .v (.int .i64 0)], [], [.data 80 (.int .u64) (Mi mE), .nest kW sE none]) 1 (stOf 143 [2,5,6,7,8,9,10] [.ptr 0 0 0, .ptr 1 0 0, .own 2 0 A.length none, .own 3 0 Z.length none, .ptr 4 0 0, .ptr 5 0 0, .fn 98 [.ptr 5 0 0, .ptr 4 0 0]] [.live (.box 71 [.v (.slice none 0 0), .v (.slice none 0 0), .v (.bool false)]), .live (.box 119 [slW W, slS S, .own 6 0 n (some n), .own 7 0 ms.length none]), .live (.data 104 SeT A), .live (.data 104 SeT Z), .live (.box 46 [.own 8 0 td.length none]), .live (.box 32 [.own 9 0 N (some N)]), .live (.data 80 (.int .u64) (Mi m)), .live (.nest kW ms none), .live (.data 3 (.int .i64) td), .live (.data 4 .bool wt)]) := by
  induction q with
  | zero => intro m ms wt td h; omega
  | succ q ih =>
    intro m ms wt td hq I
    have hm : m.length = n := by rw [I.len, hn]
    cases td with
    | nil =>
      obtain ⟨e1, e2⟩ := I.done
      rw [← h1] at e1
      rw [e1, ← h2] at e2
      subst e1; subst e2
      have hx := e59c W S n m ms hm I.may hS (fun j hj => by
        have := F.cells _ (getD_in (d := (0, false, [])) hj)
        rw [hn] at this
        exact this) rE S.length 0 true (by omega) (by omega) (by rw [restO_ok I.may, h3]; rfl)
      refine gets_vc (flag [2000115] spNa) (fun k => [[2,5,6,7,8,9,10,45,46],[2,5,6,7,8,9,10],[2,5,6,7,8,9,10,66,67,68],[2,5,15,99,100,101],[2,5,15,99,100,101,121,122,123]].getD k []) (fun k => if k < 3 then [⟨1000000008, 3, .int .i64⟩] else if k = 99 then [⟨1000000002, 80, .int .u64⟩, ⟨4010002, 46, WT⟩] else []) 400 (.fork (.hd 2) (.hd 3)) (V := fun G R => let yy0 := (Ty.int IntKind.i64); let yy1 := (yy0.prod (Ty.bool.prod yy0.sl)); let yy2 := (NK.mk 46 yy0.sl 0 3 yy0); let yy3 := (Row.box 119 [D.sl false false yy0.sl W, D.sl false false yy1 S, D.own 6 0 n (some n), D.own 7 0 ms.length none]); let yy4 := (Row.box 71 [D.v (Value.slice none 0 0), D.v (Value.slice none 0 0), D.v (Value.bool false)]); let yy5 := (Ty.int IntKind.u64); (decide ((↑0 : Int) > (0 : Int)) = true → (0 : Int) ≤ (0 : Int) ∧ (0 : Int) < (↑0 : Int) ∧ 0 < 0 ∧ (0 : Int) ≤ (1 : Int) ∧ (1 : Int) ≤ (↑0 : Int) ∧ (↑0 : Int) ≤ (↑0 : Int) ∧ (0 : Int) ≤ [].getD 0 yy0.dflt ∧ [].getD 0 yy0.dflt < (↑N : Int) ∧ 0 < wt.length ∧ Con Try.prog 99 [Row.box 119 [D.sl false false yy0.sl W, D.sl false false yy1 S, D.own 1 0 n (some n), D.own 2 0 ms.length none], Row.data 80 yy5 (Mi (Nt (Mi m))), Row.nest yy2 ms none] [D.ptr 0 0 0, D.v (Value.int IntKind.i64 ([].getD 0 yy0.dflt))] (D.own 3 0 (lostC W (Nt (Mi m)) (slotAt S ([].getD 0 yy0.dflt)).snd.snd (ms.getD 0 [])).length none) [some (Row.box 119 [D.sl false false yy0.sl W, D.sl false false yy1 S, D.own 1 0 n (some n), D.own 2 0 ms.length none]), some (Row.data 80 yy5 (Mi (lookC W (Nt (Mi m)) (slotAt S ([].getD 0 yy0.dflt)).snd.snd (ms.getD 0 [])))), some (Row.nest yy2 (ms.set 0 (keepI W (Nt (Mi m)) (slotAt S ([].getD 0 yy0.dflt)).snd.snd (ms.getD 0 []))) none)] [Row.data 3 yy0 (lostC W (Nt (Mi m)) (slotAt S ([].getD 0 yy0.dflt)).snd.snd (ms.getD 0 []))] ∧ 1 = 1 ∧ 0 = 0 ∧ 0 = 0 ∧ Value.int IntKind.i64 ([].getD 0 yy0.dflt) = Value.int IntKind.i64 ([].getD 0 yy0.dflt) ∧ (Mi (lookC W (Nt (Mi m)) (slotAt S ([].getD 0 yy0.dflt)).snd.snd (ms.getD 0 []))).length = (Mi (Nt (Mi m))).length ∧ (ms.set 0 (keepI W (Nt (Mi m)) (slotAt S ([].getD 0 yy0.dflt)).snd.snd (ms.getD 0 []))).length = ms.length ∧ some yy3 = some yy3 ∧ some (Row.data 80 yy5 (Mi m)) = some (Row.data 80 yy5 (Mi (Nt (Mi m)))) ∧ some (Row.nest yy2 ms none) = some (Row.nest yy2 ms none) ∧ SameK (KK n59 2) (KK n59 2) ∧ G 2 (stOf 143 [2, 5, 6, 7, 8, 9, 10, 66, 67, 68] [D.ptr 0 0 0, D.ptr 1 0 0, D.own 2 0 A.length none, D.own 3 0 Z.length none, D.ptr 4 0 0, D.ptr 5 0 0, D.fn 98 [D.ptr 5 0 0, D.ptr 4 0 0], D.own 6 0 (lostC W (Nt (Mi m)) (slotAt S ([].getD 0 yy0.dflt)).snd.snd (ms.getD 0 [])).length none, D.v (Value.int IntKind.i64 (↑(lostC W (Nt (Mi m)) (slotAt S ([].getD 0 yy0.dflt)).snd.snd (ms.getD 0 [])).length : Int)), D.v (Value.int IntKind.i64 (0 : Int))] [Slot.live yy4, Slot.live (Row.box 119 [D.sl false false yy0.sl W, D.sl false false yy1 S, D.own 7 0 n (some n), D.own 8 0 ms.length none]), Slot.live (Row.data 104 (yy0.prod yy0) A), Slot.live (Row.data 104 (yy0.prod yy0) Z), Slot.live (Row.box 46 [D.own 9 0 0 none]), Slot.live (Row.box 32 [D.own 10 0 N (some N)]), Slot.live (Row.data 3 yy0 (lostC W (Nt (Mi m)) (slotAt S ([].getD 0 yy0.dflt)).snd.snd (ms.getD 0 []))), Slot.live (Row.data 80 yy5 (Mi (lookC W (Nt (Mi m)) (slotAt S ([].getD 0 yy0.dflt)).snd.snd (ms.getD 0 [])))), Slot.live (Row.nest yy2 (ms.set 0 (keepI W (Nt (Mi m)) (slotAt S ([].getD 0 yy0.dflt)).snd.snd (ms.getD 0 []))) none), Slot.live (Row.data 3 yy0 (List.take 0 (List.drop 1 []))), Slot.live (Row.data 4 Ty.bool (wt.set 0 false))])) ∧ (decide ((↑0 : Int) > (0 : Int)) = false → SameK (KK n59 3) (KK n59 3) ∧ G 3 (stOf 143 [2, 5, 15, 99, 100, 101] [D.ptr 0 0 0, D.ptr 1 0 0, D.ptr 2 0 0, D.sl false false yy1 S, D.v (Value.int IntKind.i64 (↑S.length : Int)), D.v (Value.int IntKind.i64 (0 : Int))] [Slot.live yy4, Slot.live (Row.box 119 [D.sl false false yy0.sl W, D.sl false false yy1 S, D.own 3 0 n (some n), D.own 4 0 ms.length none]), Slot.live (Row.box 71 [D.own 3 0 n (some n), D.own 4 0 ms.length none, D.v (Value.bool true)]), Slot.live (Row.data 80 yy5 (Mi m)), Slot.live (Row.nest yy2 ms none)]))) hmG (fun G R => by kernel_rfl) ?_
      try dsimp only
      simp (disch := omega) only [wrG, sameK_iff, true_and, and_true, decide_eq_true_eq, decide_eq_false_iff_not, ne_eq, not_false_eq_true, Bool.false_eq_true, Bool.true_eq_false, false_implies, true_implies, Ty.dflt, reduceCtorEq, beq_iff_eq, bne_iff_ne, beq_eq_false_iff_ne, bne_eq_false_iff_eq, Bool.not_eq_true, Bool.not_eq_eq_eq_not, Bool.not_true, Bool.not_false, gt_iff_lt, ge_iff_le, Int.not_lt, Int.not_le]
      repeat' (first | with_reducible refine And.intro ?_ ?_ | intro _)
      all_goals first | rfl | omega | assumption | trivial | (exfalso; simp_all; done) | (exfalso; omega) | skip
    | cons s td =>
      obtain ⟨s0, s1, L⟩ := Inv.look B F I
      have c1 := d99 W S m ms s s0 s1 I.may L
      rw [hm] at c1
      have qs := I.q
      have hwl := qs.len
      obtain ⟨C, hC⟩ : ∃ C, (slotAt S s).2.2 = C := ⟨_, rfl⟩
      obtain ⟨l, hl⟩ : ∃ l, ms.getD s.toNat [] = l := ⟨_, rfl⟩
      obtain ⟨I2, M2⟩ := Inv.step B I hC hl
      have hc := F.cells (slotAt S s) (by unfold slotAt; exact getD_in (by omega))
      rw [hC] at hc
      rw [hC, hl] at c1
      have hlost : ∀ c ∈ lostC W m C l, 0 ≤ c ∧ c < n := fun c h => by
        rw [← hn]
        exact hc.2 c (lost_sub _ _ _ _ c h)
      have hll : (lostC W m C l).length ≤ 300 := Nat.le_trans (lost_len _ _ _ _) hc.1
      have hlm : (lookC W m C l).length = m.length := by rw [I2.len, I.len]
      have hx := ih _ _ _ _ (by simp only [List.length_cons] at hq; omega) I2
      rw [List.length_set] at hx
      have hb := e59b W S A Z n N (lookC W m C l) (ms.set s.toNat (keepI W m C l)) (lostC W m C l) (by omega) hll hA hZ hlost (by rw [hN]; exact B.inA) (by rw [hN]; exact B.inD) _ _ mE sE rE (by rw [List.length_set]; exact hx) (lostC W m C l).length 0 (wt.set s.toNat false) td (by omega) (by omega) (by rw [hN]; exact pop_queue qs) rfl
      rw [List.length_set] at hb
      refine gets_vc (flag [2000115] spNa) (fun k => [[2,5,6,7,8,9,10,45,46],[2,5,6,7,8,9,10],[2,5,6,7,8,9,10,66,67,68],[2,5,15,99,100,101],[2,5,15,99,100,101,121,122,123]].getD k []) (fun k => if k < 3 then [⟨1000000008, 3, .int .i64⟩] else if k = 99 then [⟨1000000002, 80, .int .u64⟩, ⟨4010002, 46, WT⟩] else []) 400 (.fork (.hd 2) (.hd 3)) (V := fun G R => let yy0 := (Ty.int IntKind.i64); let yy1 := ((s :: td).getD 0 yy0.dflt); let yy2 := (yy0.prod (Ty.bool.prod yy0.sl)); let yy3 := (Int.toNat yy1); let yy4 := (↑(s :: td).length : Int); let yy5 := (NK.mk 46 yy0.sl 0 3 yy0); let yy6 := (slotAt S yy1); let yy7 := (Row.box 119 [D.sl false false yy0.sl W, D.sl false false yy2 S, D.own 6 0 n (some n), D.own 7 0 ms.length none]); let yy8 := (Row.box 71 [D.v (Value.slice none 0 0), D.v (Value.slice none 0 0), D.v (Value.bool false)]); let yy9 := (Ty.int IntKind.u64); (decide (yy4 > (0 : Int)) = true → (0 : Int) ≤ (0 : Int) ∧ (0 : Int) < yy4 ∧ 0 < (s :: td).length ∧ (0 : Int) ≤ (1 : Int) ∧ (1 : Int) ≤ yy4 ∧ yy4 ≤ (↑((s :: td).length - 0) : Int) ∧ (0 : Int) ≤ (s :: td).getD 0 yy0.dflt ∧ (s :: td).getD 0 yy0.dflt < (↑N : Int) ∧ 0 + Int.toNat yy1 < wt.length ∧ Con Try.prog 99 [Row.box 119 [D.sl false false yy0.sl W, D.sl false false yy2 S, D.own 1 0 n (some n), D.own 2 0 ms.length none], Row.data 80 yy9 (Mi (Nt (Mi m))), Row.nest yy5 ms none] [D.ptr 0 0 0, D.v (Value.int IntKind.i64 yy1)] (D.own 3 0 (lostC W (Nt (Mi m)) yy6.snd.snd (ms.getD yy3 [])).length none) [some (Row.box 119 [D.sl false false yy0.sl W, D.sl false false yy2 S, D.own 1 0 n (some n), D.own 2 0 ms.length none]), some (Row.data 80 yy9 (Mi (lookC W (Nt (Mi m)) yy6.snd.snd (ms.getD yy3 [])))), some (Row.nest yy5 (ms.set yy3 (keepI W (Nt (Mi m)) yy6.snd.snd (ms.getD yy3 []))) none)] [Row.data 3 yy0 (lostC W (Nt (Mi m)) yy6.snd.snd (ms.getD yy3 []))] ∧ 1 = 1 ∧ 0 = 0 ∧ 0 = 0 ∧ Value.int IntKind.i64 yy1 = Value.int IntKind.i64 yy1 ∧ (Mi (lookC W (Nt (Mi m)) yy6.snd.snd (ms.getD yy3 []))).length = (Mi (Nt (Mi m))).length ∧ (ms.set yy3 (keepI W (Nt (Mi m)) yy6.snd.snd (ms.getD yy3 []))).length = ms.length ∧ some yy7 = some yy7 ∧ some (Row.data 80 yy9 (Mi m)) = some (Row.data 80 yy9 (Mi (Nt (Mi m)))) ∧ some (Row.nest yy5 ms none) = some (Row.nest yy5 ms none) ∧ SameK (KK n59 2) (KK n59 2) ∧ G 2 (stOf 143 [2, 5, 6, 7, 8, 9, 10, 66, 67, 68] [D.ptr 0 0 0, D.ptr 1 0 0, D.own 2 0 A.length none, D.own 3 0 Z.length none, D.ptr 4 0 0, D.ptr 5 0 0, D.fn 98 [D.ptr 5 0 0, D.ptr 4 0 0], D.own 6 0 (lostC W (Nt (Mi m)) yy6.snd.snd (ms.getD yy3 [])).length none, D.v (Value.int IntKind.i64 (↑(lostC W (Nt (Mi m)) yy6.snd.snd (ms.getD yy3 [])).length : Int)), D.v (Value.int IntKind.i64 (0 : Int))] [Slot.live yy8, Slot.live (Row.box 119 [D.sl false false yy0.sl W, D.sl false false yy2 S, D.own 7 0 n (some n), D.own 8 0 ms.length none]), Slot.live (Row.data 104 (yy0.prod yy0) A), Slot.live (Row.data 104 (yy0.prod yy0) Z), Slot.live (Row.box 46 [D.own 9 0 (yy4.toNat - 1) none]), Slot.live (Row.box 32 [D.own 10 0 N (some N)]), Slot.live (Row.data 3 yy0 (lostC W (Nt (Mi m)) yy6.snd.snd (ms.getD yy3 []))), Slot.live (Row.data 80 yy9 (Mi (lookC W (Nt (Mi m)) yy6.snd.snd (ms.getD yy3 [])))), Slot.live (Row.nest yy5 (ms.set yy3 (keepI W (Nt (Mi m)) yy6.snd.snd (ms.getD yy3 []))) none), Slot.live (Row.data 3 yy0 (List.take (yy4.toNat - 1) (List.drop 1 (s :: td)))), Slot.live (Row.data 4 Ty.bool (wt.set (0 + Int.toNat yy1) false))])) ∧ (decide (yy4 > (0 : Int)) = false → SameK (KK n59 3) (KK n59 3) ∧ G 3 (stOf 143 [2, 5, 15, 99, 100, 101] [D.ptr 0 0 0, D.ptr 1 0 0, D.ptr 2 0 0, D.sl false false yy2 S, D.v (Value.int IntKind.i64 (↑S.length : Int)), D.v (Value.int IntKind.i64 (0 : Int))] [Slot.live yy8, Slot.live (Row.box 119 [D.sl false false yy0.sl W, D.sl false false yy2 S, D.own 3 0 n (some n), D.own 4 0 ms.length none]), Slot.live (Row.box 71 [D.own 3 0 n (some n), D.own 4 0 ms.length none, D.v (Value.bool true)]), Slot.live (Row.data 80 yy9 (Mi m)), Slot.live (Row.nest yy5 ms none)]))) hmG (fun G R => by kernel_rfl) ?_
      try dsimp only
      simp only [Ty.dflt, Nat.zero_add, Nat.sub_zero, Nt_Mi, Mi_len, hlm, hC, hl, List.getD_cons_zero, List.length_cons, Int.toNat_natCast, Nat.add_sub_cancel, List.drop_succ_cons, List.drop_zero, List.take_length, List.length_set]
      simp (disch := omega) only [wrG, sameK_iff, true_and, and_true, decide_eq_true_eq, decide_eq_false_iff_not, ne_eq, not_false_eq_true, Bool.false_eq_true, Bool.true_eq_false, false_implies, true_implies, Ty.dflt, reduceCtorEq, beq_iff_eq, bne_iff_ne, beq_eq_false_iff_ne, bne_eq_false_iff_eq, Bool.not_eq_true, Bool.not_eq_eq_eq_not, Bool.not_true, Bool.not_false, gt_iff_lt, ge_iff_le, Int.not_lt, Int.not_le]
      repeat' (first | with_reducible refine And.intro ?_ ?_ | intro _)
      all_goals first | rfl | omega | assumption | trivial | (exfalso; simp_all; done) | (exfalso; omega) | skip
def vq38 (W : List (List Int)) (S : List Slt) (A : List (Int × Int)) (Z : List (Int × Int)) (n : Nat) (N : Nat) (m : List Nat) (ms : List (List Int)) (s : Int) (wt : List Bool) (td : List Int) (G : Nat → St → Prop) (R : D × List (Option Row) × List Row → Prop) : Prop := let yy0 := (Ty.int IntKind.i64); let yy1 := (Row.box 119 [D.sl false false yy0.sl W, D.sl false false (yy0.prod (Ty.bool.prod yy0.sl)) S, D.own 6 0 n (some n), D.own 7 0 ms.length none]); let yy2 := (Row.box 32 [D.own 9 0 N (some N)]); let yy3 := (Row.box 71 [D.v (Value.slice none 0 0), D.v (Value.slice none 0 0), D.v (Value.bool false)]); let yy4 := (putF wt td s); let yy5 := (Row.box 46 [D.own 8 0 td.length none]); (decide (s < (↑S.length : Int)) = true → Con Try.prog 98 [Row.box 32 [D.own 1 0 N (some N)], Row.data 4 Ty.bool wt, Row.box 46 [D.own 3 0 td.length none], Row.data 3 yy0 td] [D.v (Value.int IntKind.i64 s), D.ptr 0 0 0, D.ptr 2 0 0] (D.tup []) [some (Row.box 32 [D.own 1 0 N (some N)]), some (Row.data 4 Ty.bool yy4.fst), some (Row.box 46 [D.own 4 0 yy4.snd.length none]), none] [Row.data 3 yy0 yy4.snd] ∧ Value.int IntKind.i64 s = Value.int IntKind.i64 s ∧ 5 = 5 ∧ 0 = 0 ∧ 0 = 0 ∧ 4 = 4 ∧ 0 = 0 ∧ 0 = 0 ∧ yy4.fst.length = wt.length ∧ some yy2 = some yy2 ∧ some (Row.data 4 Ty.bool wt) = some (Row.data 4 Ty.bool wt) ∧ some yy5 = some yy5 ∧ some (Row.data 3 yy0 td) = some (Row.data 3 yy0 td) ∧ SameK (KK n59 0) (KK n59 0) ∧ G 0 (stOf 143 [2, 5, 6, 7, 8, 9, 10, 45, 46] [D.ptr 0 0 0, D.ptr 1 0 0, D.own 2 0 A.length none, D.own 3 0 Z.length none, D.ptr 4 0 0, D.ptr 5 0 0, D.fn 98 [D.ptr 5 0 0, D.ptr 4 0 0], D.v (Value.int IntKind.i64 (↑S.length : Int)), D.v (Value.int IntKind.i64 (IntKind.i64.wrap (s + (1 : Int))))] [Slot.live yy3, Slot.live yy1, Slot.live (Row.data 104 (yy0.prod yy0) A), Slot.live (Row.data 104 (yy0.prod yy0) Z), Slot.live (Row.box 46 [D.own 8 0 yy4.snd.length none]), Slot.live yy2, Slot.live (Row.data 80 (Ty.int IntKind.u64) (Mi m)), Slot.live (Row.nest (NK.mk 46 yy0.sl 0 3 yy0) ms none), Slot.live (Row.data 3 yy0 (List.take yy4.snd.length (List.drop 0 yy4.snd))), Slot.live (Row.data 4 Ty.bool yy4.fst)])) ∧ (decide (s < (↑S.length : Int)) = false → SameK (KK n59 1) (KK n59 1) ∧ G 1 (stOf 143 [2, 5, 6, 7, 8, 9, 10] [D.ptr 0 0 0, D.ptr 1 0 0, D.own 2 0 A.length none, D.own 3 0 Z.length none, D.ptr 4 0 0, D.ptr 5 0 0, D.fn 98 [D.ptr 5 0 0, D.ptr 4 0 0]] [Slot.live yy3, Slot.live yy1, Slot.live (Row.data 104 (yy0.prod yy0) A), Slot.live (Row.data 104 (yy0.prod yy0) Z), Slot.live yy5, Slot.live yy2, Slot.live (Row.data 80 (Ty.int IntKind.u64) (Mi m)), Slot.live (Row.nest (NK.mk 46 yy0.sl 0 3 yy0) ms none), Slot.live (Row.data 3 yy0 (List.take td.length (List.drop 0 td))), Slot.live (Row.data 4 Ty.bool wt)]))
theorem e59p (W : List (List Int)) (S : List Slt) (A Z : List (Int × Int)) (n N : Nat) (m : List Nat) (ms : List (List Int)) (hS : S.length ≤ 900) (hN : N = S.length) (mE : List Nat) (sE : List (List Int)) (rE : Bool) (hx : ∀ wt td, Queue wt td N → (∀ j, j < N → wt.getD j false = true) → GetsK Try.prog Try.f59.results.toList [none,none] (KK n59) 0 (.tup [.agg [.own 0 0 n none, .own 1 0 sE.length none, .v (.bool rE)], .v (.int .i64 0)], [], [.data 80 (.int .u64) (Mi mE), .nest kW sE none]) 1 (stOf 143 [2,5,6,7,8,9,10] [.ptr 0 0 0, .ptr 1 0 0, .own 2 0 A.length none, .own 3 0 Z.length none, .ptr 4 0 0, .ptr 5 0 0, .fn 98 [.ptr 5 0 0, .ptr 4 0 0]] [.live (.box 71 [.v (.slice none 0 0), .v (.slice none 0 0), .v (.bool false)]), .live (.box 119 [slW W, slS S, .own 6 0 n (some n), .own 7 0 ms.length none]), .live (.data 104 SeT A), .live (.data 104 SeT Z), .live (.box 46 [.own 8 0 td.length none]), .live (.box 32 [.own 9 0 N (some N)]), .live (.data 80 (.int .u64) (Mi m)), .live (.nest kW ms none), .live (.data 3 (.int .i64) td), .live (.data 4 .bool wt)])) (z : Nat) : ∀ (s : Int) (wt : List Bool) (td : List Int), 0 ≤ s → s + z = S.length → Queue wt td N → (∀ j : Nat, j < s.toNat → wt.getD j false = true) → GetsK Try.prog Try.f59.results.toList [none,none] (KK n59) 0 (.tup [.agg [.own 0 0 n none, .own 1 0 sE.length none, .v (.bool rE)], .v (.int .i64 0)], [], [.data 80 (.int .u64) (Mi mE), .nest kW sE none]) 0 (stOf 143 [2,5,6,7,8,9,10,45,46] [.ptr 0 0 0, .ptr 1 0 0, .own 2 0 A.length none, .own 3 0 Z.length none, .ptr 4 0 0, .ptr 5 0 0, .fn 98 [.ptr 5 0 0, .ptr 4 0 0], .v (.int .i64 S.length), .v (.int .i64 s)] [.live (.box 71 [.v (.slice none 0 0), .v (.slice none 0 0), .v (.bool false)]), .live (.box 119 [slW W, slS S, .own 6 0 n (some n), .own 7 0 ms.length none]), .live (.data 104 SeT A), .live (.data 104 SeT Z), .live (.box 46 [.own 8 0 td.length none]), .live (.box 32 [.own 9 0 N (some N)]), .live (.data 80 (.int .u64) (Mi m)), .live (.nest kW ms none), .live (.data 3 (.int .i64) td), .live (.data 4 .bool wt)]) := by
  induction z with
  | zero =>
    intro s wt td s0 hs q hw
    have h1 := hx wt td q (fun j hj => hw j (by omega))
    refine gets_vc (flag [2000115] spNa) (fun k => [[2,5,6,7,8,9,10,45,46],[2,5,6,7,8,9,10],[2,5,6,7,8,9,10,66,67,68],[2,5,15,99,100,101],[2,5,15,99,100,101,121,122,123]].getD k []) (fun k => if k < 3 then [⟨1000000008, 3, .int .i64⟩] else if k = 99 then [⟨1000000002, 80, .int .u64⟩, ⟨4010002, 46, WT⟩] else []) 400 (.fork (.hd 0) (.hd 1)) (V := vq38 W S A Z n N m ms s wt td) hmG (fun G R => by kernel_rfl) ?_
    unfold vq38
    try dsimp only
    simp only [List.drop_zero, List.take_length]
    simp (disch := omega) only [wrG, sameK_iff, true_and, and_true, decide_eq_true_eq, decide_eq_false_iff_not, ne_eq, not_false_eq_true, Bool.false_eq_true, Bool.true_eq_false, false_implies, true_implies, Ty.dflt, reduceCtorEq, beq_iff_eq, bne_iff_ne, beq_eq_false_iff_ne, bne_eq_false_iff_eq, Bool.not_eq_true, Bool.not_eq_eq_eq_not, Bool.not_true, Bool.not_false, gt_iff_lt, ge_iff_le, Int.not_lt, Int.not_le]
    repeat' (first | with_reducible refine And.intro ?_ ?_ | intro _)
    all_goals first | rfl | omega | assumption | trivial | (exfalso; simp_all; done) | (exfalso; omega) | skip
  | succ z ih =>
    intro s wt td s0 hs q hw
    have hs1 : IntKind.i64.wrap (s + 1) = s + 1 := wrG (by omega) (by omega)
    obtain ⟨q1, g1, p1⟩ := put_queue q (s := s) (by omega)
    have l0 := q.long
    have c1 := d98 s N td.length wt td q.len rfl (by omega) (by omega)
    have n1 : (putF wt td s).1.length = wt.length := by rw [q1.len, q.len]
    have h1 := ih (s + 1) _ _ (by omega) (by omega) q1 (fun j hj => by
      by_cases e : j < s.toNat
      · exact g1 j (hw j e)
      · have : j = s.toNat := by omega
        rw [this]
        exact p1 s0)
    refine gets_vc (flag [2000115] spNa) (fun k => [[2,5,6,7,8,9,10,45,46],[2,5,6,7,8,9,10],[2,5,6,7,8,9,10,66,67,68],[2,5,15,99,100,101],[2,5,15,99,100,101,121,122,123]].getD k []) (fun k => if k < 3 then [⟨1000000008, 3, .int .i64⟩] else if k = 99 then [⟨1000000002, 80, .int .u64⟩, ⟨4010002, 46, WT⟩] else []) 400 (.fork (.hd 0) (.hd 1)) (V := vq38 W S A Z n N m ms s wt td) hmG (fun G R => by kernel_rfl) ?_
    unfold vq38
    try dsimp only
    simp only [hs1, List.drop_zero, List.take_length]
    simp (disch := omega) only [wrG, sameK_iff, true_and, and_true, decide_eq_true_eq, decide_eq_false_iff_not, ne_eq, not_false_eq_true, Bool.false_eq_true, Bool.true_eq_false, false_implies, true_implies, Ty.dflt, reduceCtorEq, beq_iff_eq, bne_iff_ne, beq_eq_false_iff_ne, bne_eq_false_iff_eq, Bool.not_eq_true, Bool.not_eq_eq_eq_not, Bool.not_true, Bool.not_false, gt_iff_lt, ge_iff_le, Int.not_lt, Int.not_le]
    repeat' (first | with_reducible refine And.intro ?_ ?_ | intro _)
    all_goals first | rfl | omega | assumption | trivial | (exfalso; simp_all; done) | (exfalso; omega) | skip
theorem d59 (g : Gr) (W : List (List Int)) (M : List Nat) (hM : Smalls M) : Con Try.prog 59 [] [.agg [.v (.int .i64 g.h), .v (.int .i64 g.w), .sl false false .bool g.B, .sl false false .bool g.R, .sl false false .bool g.L, slW W, slU M]] (narVal (narM ⟨g, W, M⟩) (narW ⟨g, W, M⟩) (narO ⟨g, W, M⟩) (checkP ⟨g, W, M⟩)) [] [.data 80 (.int .u64) (Mi (narM ⟨g, W, M⟩)), .nest kW (narW ⟨g, W, M⟩) none] := by
  refine con_vc (how := [none,none]) (c := n59) (K := (KK n59)) (flag [2000115] spNa) (fun k => [[2,5,6,7,8,9,10,45,46],[2,5,6,7,8,9,10],[2,5,6,7,8,9,10,66,67,68],[2,5,15,99,100,101],[2,5,15,99,100,101,121,122,123]].getD k []) (fun k => if k < 3 then [⟨1000000008, 3, .int .i64⟩] else if k = 99 then [⟨1000000002, 80, .int .u64⟩, ⟨4010002, 46, WT⟩] else []) 400 (.fork .stop (.hd 0)) (V := fun G R => let yy0 := (Pr.mk g W (Nt (Mi M))); let yy1 := (Ty.int IntKind.i64); let yy2 := (↑(slotsF yy0.g).length : Int); let yy3 := (mayF yy0.W (slotsF yy0.g)); let yy4 := (Ty.int IntKind.u64); Con Try.prog 62 [] [D.agg [D.v (Value.int IntKind.i64 yy0.g.h), D.v (Value.int IntKind.i64 yy0.g.w), D.sl false false Ty.bool yy0.g.B, D.sl false false Ty.bool yy0.g.R, D.sl false false Ty.bool yy0.g.L, D.sl false false yy1.sl yy0.W, D.sl false false yy4 (Mi yy0.M)]] (D.v (Value.int IntKind.i64 (checkP yy0))) [] [] ∧ Value.int IntKind.i64 g.h = Value.int IntKind.i64 yy0.g.h ∧ Value.int IntKind.i64 g.w = Value.int IntKind.i64 yy0.g.w ∧ g.B = yy0.g.B ∧ g.R = yy0.g.R ∧ g.L = yy0.g.L ∧ W = yy0.W ∧ Mi M = Mi yy0.M ∧ ((checkP yy0 != (0 : Int)) = true → R (D.tup [D.agg [D.own 0 0 0 none, D.own 1 0 0 none, D.v (Value.bool false)], D.v (Value.int IntKind.i64 (checkP yy0))], [], [Row.data 80 yy4 [], Row.nest (NK.mk 46 yy1.sl 0 3 yy1) [] none])) ∧ ((checkP yy0 != (0 : Int)) = false → Con Try.prog 97 [] [D.agg [D.v (Value.int IntKind.i64 yy0.g.h), D.v (Value.int IntKind.i64 yy0.g.w), D.sl false false Ty.bool yy0.g.B, D.sl false false Ty.bool yy0.g.R, D.sl false false Ty.bool yy0.g.L, D.sl false false yy1.sl yy0.W, D.sl false false yy4 (Mi yy0.M)]] (D.ptr 0 0 0) [] [Row.box 119 [D.sl false false yy1.sl yy0.W, D.sl false false (yy1.prod (Ty.bool.prod yy1.sl)) (slotsF yy0.g), D.own 1 0 yy0.M.length (some yy0.M.length), D.own 2 0 yy3.length none], Row.data 80 yy4 (Mi (m0F yy0)), Row.nest (NK.mk 46 yy1.sl 0 3 yy1) yy3 none] ∧ Value.int IntKind.i64 g.h = Value.int IntKind.i64 yy0.g.h ∧ Value.int IntKind.i64 g.w = Value.int IntKind.i64 yy0.g.w ∧ g.B = yy0.g.B ∧ g.R = yy0.g.R ∧ g.L = yy0.g.L ∧ W = yy0.W ∧ Mi M = Mi yy0.M ∧ Con Try.prog 77 [] [D.agg [D.v (Value.int IntKind.i64 g.h), D.v (Value.int IntKind.i64 g.w), D.sl false false Ty.bool g.B, D.sl false false Ty.bool g.R, D.sl false false Ty.bool g.L]] (D.tup [D.own 0 0 (seatsF g).fst.length none, D.own 1 0 (seatsF g).snd.length none]) [] [Row.data 104 (yy1.prod yy1) (seatsF g).fst, Row.data 104 (yy1.prod yy1) (seatsF g).snd] ∧ Value.int IntKind.i64 g.h = Value.int IntKind.i64 g.h ∧ Value.int IntKind.i64 g.w = Value.int IntKind.i64 g.w ∧ g.B = g.B ∧ g.R = g.R ∧ g.L = g.L ∧ (0 : Int) ≤ yy2 ∧ yy2 ≤ yy2 ∧ yy2 ≤ (9223372036854775807 : Int) ∧ yy2.toNat * 1 ≤ 281474976710656 ∧ SameK (KK n59 0) (KK n59 0) ∧ G 0 (stOf 143 [2, 5, 6, 7, 8, 9, 10, 45, 46] [D.ptr 0 0 0, D.ptr 1 0 0, D.own 2 0 (seatsF g).fst.length none, D.own 3 0 (seatsF g).snd.length none, D.ptr 4 0 0, D.ptr 5 0 0, D.fn 98 [D.ptr 5 0 0, D.ptr 4 0 0], D.v (Value.int IntKind.i64 yy2), D.v (Value.int IntKind.i64 (0 : Int))] [Slot.live (Row.box 71 [D.v (Value.slice none 0 0), D.v (Value.slice none 0 0), D.v (Value.bool false)]), Slot.live (Row.box 119 [D.sl false false yy1.sl yy0.W, D.sl false false (yy1.prod (Ty.bool.prod yy1.sl)) (slotsF yy0.g), D.own 6 0 yy0.M.length (some yy0.M.length), D.own 7 0 yy3.length none]), Slot.live (Row.data 104 (yy1.prod yy1) (seatsF g).fst), Slot.live (Row.data 104 (yy1.prod yy1) (seatsF g).snd), Slot.live (Row.box 46 [D.own 8 0 0 none]), Slot.live (Row.box 32 [D.own 9 0 yy2.toNat (some yy2.toNat)]), Slot.live (Row.data 80 yy4 (Mi (m0F yy0))), Slot.live (Row.nest (NK.mk 46 yy1.sl 0 3 yy1) yy3 none), Slot.live (Row.data 3 yy1 []), Slot.live (Row.data 4 Ty.bool (List.replicate yy2.toNat false))]))) hmG Try.func59 (by kernel_rfl) (by kernel_rfl) (fun G R => by kernel_rfl) ?_
  try dsimp only
  try dsimp only
  have c0 := d62 g W M
  unfold narVal
  simp only [Nt_Mi, Mi_len, Int.toNat_natCast]
  by_cases h : checkP ⟨g, W, M⟩ = 0
  · have F := fine_of h hM
    have hsz := F.size
    obtain ⟨B, hA, hZ⟩ := board_of h hM
    have c1 := d97 g W M F
    have c2 := d77 g
    have hl := narM_len ⟨g, W, M⟩ h
    have e1 : narM ⟨g, W, M⟩ = gfpF W (slotsF g) (m0F ⟨g, W, M⟩) := if_pos h
    have e2 : narW ⟨g, W, M⟩ = wordsF W (slotsF g) (narM ⟨g, W, M⟩) := if_pos h
    have e3 : narO ⟨g, W, M⟩ = okF (slotsF g) (narM ⟨g, W, M⟩) (narW ⟨g, W, M⟩) := if_pos h
    have hml : (m0F ⟨g, W, M⟩).length = M.length := by
      unfold m0F
      rw [seatSlots_len]
      simp
    have hms : Smalls (m0F ⟨g, W, M⟩) := seatSlots_small hM _ (rep_small _)
    have F0 : Fine W (slotsF g) (m0F ⟨g, W, M⟩) := ⟨F.words, F.long, F.slots, fun s hs => by rw [hml]; exact F.cells s hs, by omega, hms⟩
    have hS : (slotsF g).length ≤ 900 := slots_900 (checkP_zero h).1
    have hq : Queue (List.replicate (slotsF g).length false) [] (slotsF g).length := queue_new _
    have hx := e59p W (slotsF g) (seatsF g).1 (seatsF g).2 M.length (slotsF g).length (m0F ⟨g, W, M⟩) (mayF W (slotsF g)) hS rfl (narM ⟨g, W, M⟩) (narW ⟨g, W, M⟩) (narO ⟨g, W, M⟩)
      (fun wt td q hw => e59a W (slotsF g) (seatsF g).1 (seatsF g).2 M.length (m0F ⟨g, W, M⟩) hml F0 hS (by rw [hml]; exact B) hA hZ (slotsF g).length rfl _ _ _ e1 e2 e3 _ _ _ wt td (Nat.lt_succ_self _) (inv_start q hw))
      (slotsF g).length 0 (List.replicate (slotsF g).length false) [] (by omega) (by omega) hq (fun j hj => by simp at hj)
    rw [h] at c0 ⊢
    rw [hl]
    simp only [show ((0 : Int) != 0) = false from rfl]
    simp (disch := omega) only [wrG, sameK_iff, true_and, and_true, decide_eq_true_eq, decide_eq_false_iff_not, ne_eq, not_false_eq_true, Bool.false_eq_true, Bool.true_eq_false, false_implies, true_implies, Ty.dflt, reduceCtorEq, beq_iff_eq, bne_iff_ne, beq_eq_false_iff_ne, bne_eq_false_iff_eq, Bool.not_eq_true, Bool.not_eq_eq_eq_not, Bool.not_true, Bool.not_false, gt_iff_lt, ge_iff_le, Int.not_lt, Int.not_le]
    repeat' (first | with_reducible refine And.intro ?_ ?_ | intro _)
    all_goals first | rfl | omega | assumption | trivial | exact c1 | exact c2 | exact hx | skip
  · have e1 : narM ⟨g, W, M⟩ = [] := if_neg h
    have e2 : narW ⟨g, W, M⟩ = [] := if_neg h
    have e3 : narO ⟨g, W, M⟩ = false := if_neg h
    rw [e1, e2, e3]
    have hb : (checkP ⟨g, W, M⟩ != 0) = true := by rw [bne_iff_ne]; exact h
    simp only [hb]
    simp (disch := omega) only [wrG, sameK_iff, true_and, and_true, decide_eq_true_eq, decide_eq_false_iff_not, ne_eq, not_false_eq_true, Bool.false_eq_true, Bool.true_eq_false, false_implies, true_implies, Ty.dflt, reduceCtorEq, beq_iff_eq, bne_iff_ne, beq_eq_false_iff_ne, bne_eq_false_iff_eq, Bool.not_eq_true, Bool.not_eq_eq_eq_not, Bool.not_true, Bool.not_false, gt_iff_lt, ge_iff_le, Int.not_lt, Int.not_le]
    repeat' (first | with_reducible refine And.intro ?_ ?_ | intro _)
    all_goals first | rfl | omega | assumption | trivial | (exfalso; simp_all; done) | (exfalso; omega) | skip
end Go.Proofs.YtnakmganodkliaaAm
set_option maxRecDepth 100000
namespace Go.Proofs.YtnakmganodkliaaAm
open Go
abbrev slN (C : List Int) : D := .sl false false (.int .u64) C
def spNb : Sp := fun f args rd => match f, args with
  | 61, [.agg [c, w, .v (.bool o)], .agg [c', w', .v (.bool o')]] => match slC rd (.int .u64) [c], slC rd WT [w], slC rd (.int .u64) [c'], slC rd WT [w'] with
    | some C, some W, some C', some W' => some { f := 61, args := [.agg [slN C, slW W, .v (.bool o)], .agg [slN C', slW W', .v (.bool o')]], val := .v (.bool (decide (C = C' ∧ W = W' ∧ o = o'))), lent := refsDs [c, w, c', w'] }
    | _, _, _, _ => none
  | 58, [.agg [.v (.int _ h), .v (.int _ w), b, r, l, ws, ms]] => withP rd h w b r l ws ms fun p ls => some { f := 58, args := [p.d], val := .agg [.v (.int .i64 p.g.h), .v (.int .i64 p.g.w), .own 0 0 p.g.B.length none, .own 1 0 p.g.R.length none, .own 2 0 p.g.L.length none, .own 3 0 p.W.length none, .own 4 0 p.M.length none], allocs := [.data 4 .bool p.g.B, .data 4 .bool p.g.R, .data 4 .bool p.g.L, .data 46 WT p.W, .data 80 (.int .u64) (Mi p.M)], lent := ls }
  | 64, [.agg [.v (.int _ h), .v (.int _ w), b, r, l, ws, ms], .agg [.v (.int _ h'), .v (.int _ w'), b', r', l', ws', ms']] => withP rd h w b r l ws ms fun p ls => withP rd h' w' b' r' l' ws' ms' fun q ls' => some { f := 64, args := [p.d, q.d], val := .v (.bool (decide (p.g = q.g ∧ p.M = q.M ∧ p.W = q.W))), lent := ls ++ ls' }
  | 96, [w] => match slC rd WT [w] with
    | some W => some { f := 96, args := [slW W], val := .agg [.v (.int .i64 2), .v (.int .i64 2), .own 0 0 4 none, .own 1 0 4 none, .own 2 0 4 none, slW W, .own 3 0 4 none], allocs := [.data 4 .bool [false, false, false, false], .data 4 .bool [false, false, false, false], .data 4 .bool [false, false, false, false], .data 80 (.int .u64) [7, 7, 7, 7]], frz := refsDs [w] }
    | none => none
  | 57, [] => some { f := 57, args := [], val := .v (.bool true) }
  | f, args => spNa f args rd
noncomputable def n96 : Code := (Try.f96.body).getD .skip
noncomputable def n57 : Code := (Try.f57.body).getD .skip
noncomputable def n15 : Code := (Try.f15.body).getD .skip
def p0 : Pr := ⟨⟨2, 2, [false, false, false, false], [false, false, false, false], [false, false, false, false]⟩, [[0, 1], [1, 0], [0, 2]], [7, 7, 7, 7]⟩
structure Pr.fits (p : Pr) : Prop where
  g : p.g.fits
  W : p.W.length ≤ 5864062014805
  w : ∀ w ∈ p.W, w.length ≤ 17592186044416
  M : p.M.length ≤ 17592186044416
  small : Smalls p.M
theorem roomB {n : Nat} (h : n ≤ 140737488355328) : roomy Try.prog 4 n := by
  unfold roomy
  rw [show Try.prog.bytesOf 4 = 1 by kernel_rfl]
  omega
theorem roomI {n : Nat} (h : n ≤ 17592186044416) : roomy Try.prog 3 n := by
  unfold roomy
  rw [show Try.prog.bytesOf 3 = 8 by kernel_rfl]
  omega
theorem roomU {n : Nat} (h : n ≤ 17592186044416) : roomy Try.prog 80 n := by
  unfold roomy
  rw [bytes80]
  omega
theorem roomW {n : Nat} (h : n ≤ 5864062014805) : roomy Try.prog 46 n := by
  unfold roomy
  rw [bytes46]
  omega
end Go.Proofs.YtnakmganodkliaaAm
