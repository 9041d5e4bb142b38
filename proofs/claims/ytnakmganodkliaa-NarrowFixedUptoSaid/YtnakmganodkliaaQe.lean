/- What the laws of narrowing lean on: the logic and the contracts of the functions that they call (part 5) -/
import Derived.Test.YtnakmganodkliaaQd
set_option linter.unusedVariables false
set_option linter.unusedSimpArgs false
set_option maxRecDepth 100000
namespace Go.Proofs.YtnakmganodkliaaAm
open Go
def vq18 (W : List (List Int)) (S : List Slt) (n : Nat) (m : List Nat) (ms : List (List Int)) (C : List Int) (s : Int) (k : Int) (ok : Bool) (G : Nat → St → Prop) (R : D × List (Option Row) × List Row → Prop) : Prop := (decide (k < (↑C.length : Int)) = true → (0 : Int) ≤ k ∧ k < (↑C.length : Int) ∧ (ok = true → (0 : Int) ≤ C.getD k.toNat (Ty.int IntKind.i64).dflt ∧ C.getD k.toNat (Ty.int IntKind.i64).dflt < (↑n : Int) ∧ 0 + Int.toNat (C.getD k.toNat (Ty.int IntKind.i64).dflt) < (Mi m).length ∧ SameK (KK n59 4) (KK n59 4) ∧ G 4 (stOf 143 [2, 5, 15, 99, 100, 101, 121, 122, 123] [D.ptr 0 0 0, D.ptr 1 0 0, D.ptr 2 0 0, D.sl false false ((Ty.int IntKind.i64).prod (Ty.bool.prod (Ty.int IntKind.i64).sl)) S, D.v (Value.int IntKind.i64 (↑S.length : Int)), D.v (Value.int IntKind.i64 s), D.sl false false (Ty.int IntKind.i64) C, D.v (Value.int IntKind.i64 (↑C.length : Int)), D.v (Value.int IntKind.i64 (IntKind.i64.wrap (k + (1 : Int))))] [Slot.live (Row.box 71 [D.v (Value.slice none 0 0), D.v (Value.slice none 0 0), D.v (Value.bool false)]), Slot.live (Row.box 119 [D.sl false false (Ty.int IntKind.i64).sl W, D.sl false false ((Ty.int IntKind.i64).prod (Ty.bool.prod (Ty.int IntKind.i64).sl)) S, D.own 3 0 n (some n), D.own 4 0 ms.length none]), Slot.live (Row.box 71 [D.own 3 0 n (some n), D.own 4 0 ms.length none, D.v (Value.bool ((Mi m).getD (0 + Int.toNat (C.getD k.toNat (Ty.int IntKind.i64).dflt)) (Ty.int IntKind.u64).dflt != (0 : Int)))]), Slot.live (Row.data 80 (Ty.int IntKind.u64) (Mi m)), Slot.live (Row.nest (NK.mk 46 (Ty.int IntKind.i64).sl 0 3 (Ty.int IntKind.i64)) ms none)])) ∧ (ok = false → SameK (KK n59 4) (KK n59 4) ∧ G 4 (stOf 143 [2, 5, 15, 99, 100, 101, 121, 122, 123] [D.ptr 0 0 0, D.ptr 1 0 0, D.ptr 2 0 0, D.sl false false ((Ty.int IntKind.i64).prod (Ty.bool.prod (Ty.int IntKind.i64).sl)) S, D.v (Value.int IntKind.i64 (↑S.length : Int)), D.v (Value.int IntKind.i64 s), D.sl false false (Ty.int IntKind.i64) C, D.v (Value.int IntKind.i64 (↑C.length : Int)), D.v (Value.int IntKind.i64 (IntKind.i64.wrap (k + (1 : Int))))] [Slot.live (Row.box 71 [D.v (Value.slice none 0 0), D.v (Value.slice none 0 0), D.v (Value.bool false)]), Slot.live (Row.box 119 [D.sl false false (Ty.int IntKind.i64).sl W, D.sl false false ((Ty.int IntKind.i64).prod (Ty.bool.prod (Ty.int IntKind.i64).sl)) S, D.own 3 0 n (some n), D.own 4 0 ms.length none]), Slot.live (Row.box 71 [D.own 3 0 n (some n), D.own 4 0 ms.length none, D.v (Value.bool false)]), Slot.live (Row.data 80 (Ty.int IntKind.u64) (Mi m)), Slot.live (Row.nest (NK.mk 46 (Ty.int IntKind.i64).sl 0 3 (Ty.int IntKind.i64)) ms none)]))) ∧ (decide (k < (↑C.length : Int)) = false → SameK (KK n59 3) (KK n59 3) ∧ G 3 (stOf 143 [2, 5, 15, 99, 100, 101] [D.ptr 0 0 0, D.ptr 1 0 0, D.ptr 2 0 0, D.sl false false ((Ty.int IntKind.i64).prod (Ty.bool.prod (Ty.int IntKind.i64).sl)) S, D.v (Value.int IntKind.i64 (↑S.length : Int)), D.v (Value.int IntKind.i64 (IntKind.i64.wrap (s + (1 : Int))))] [Slot.live (Row.box 71 [D.v (Value.slice none 0 0), D.v (Value.slice none 0 0), D.v (Value.bool false)]), Slot.live (Row.box 119 [D.sl false false (Ty.int IntKind.i64).sl W, D.sl false false ((Ty.int IntKind.i64).prod (Ty.bool.prod (Ty.int IntKind.i64).sl)) S, D.own 3 0 n (some n), D.own 4 0 ms.length none]), Slot.live (Row.box 71 [D.own 3 0 n (some n), D.own 4 0 ms.length none, D.v (Value.bool ok)]), Slot.live (Row.data 80 (Ty.int IntKind.u64) (Mi m)), Slot.live (Row.nest (NK.mk 46 (Ty.int IntKind.i64).sl 0 3 (Ty.int IntKind.i64)) ms none)]))
theorem e59d (W : List (List Int)) (S : List Slt) (n : Nat) (m : List Nat) (ms : List (List Int)) (C : List Int) (s : Int) (hm : m.length = n) (s0 : 0 ≤ s) (s1 : s < 1000) (hC : ∀ c ∈ C, 0 ≤ c ∧ c < n) (hc : C.length ≤ 300) (rest : Bool) (rE : Bool) (hx : ∀ ok, rE = (ok && rest) → GetsK Try.prog Try.f59.results.toList [none,none] (KK n59) 0 (.tup [.agg [.own 0 0 n none, .own 1 0 ms.length none, .v (.bool rE)], .v (.int .i64 0)], [], [.data 80 (.int .u64) (Mi m), .nest kW ms none]) 3 (stOf 143 [2,5,15,99,100,101] [.ptr 0 0 0, .ptr 1 0 0, .ptr 2 0 0, slS S, .v (.int .i64 S.length), .v (.int .i64 (s + 1))] [.live (.box 71 [.v (.slice none 0 0), .v (.slice none 0 0), .v (.bool false)]), .live (.box 119 [slW W, slS S, .own 3 0 n (some n), .own 4 0 ms.length none]), .live (.box 71 [.own 3 0 n (some n), .own 4 0 ms.length none, .v (.bool ok)]), .live (.data 80 (.int .u64) (Mi m)), .live (.nest kW ms none)])) (z : Nat) : ∀ (k : Int) (ok : Bool), 0 ≤ k → k + z = C.length → rE = ((ok && (C.drop k.toNat).all (nzB m)) && rest) → GetsK Try.prog Try.f59.results.toList [none,none] (KK n59) 0 (.tup [.agg [.own 0 0 n none, .own 1 0 ms.length none, .v (.bool rE)], .v (.int .i64 0)], [], [.data 80 (.int .u64) (Mi m), .nest kW ms none]) 4 (stOf 143 [2,5,15,99,100,101,121,122,123] [.ptr 0 0 0, .ptr 1 0 0, .ptr 2 0 0, slS S, .v (.int .i64 S.length), .v (.int .i64 s), slI C, .v (.int .i64 C.length), .v (.int .i64 k)] [.live (.box 71 [.v (.slice none 0 0), .v (.slice none 0 0), .v (.bool false)]), .live (.box 119 [slW W, slS S, .own 3 0 n (some n), .own 4 0 ms.length none]), .live (.box 71 [.own 3 0 n (some n), .own 4 0 ms.length none, .v (.bool ok)]), .live (.data 80 (.int .u64) (Mi m)), .live (.nest kW ms none)]) := by
  have hs1 : IntKind.i64.wrap (s + 1) = s + 1 := wrG (by omega) (by omega)
  induction z with
  | zero =>
    intro k ok k0 hk hr
    rw [List.drop_eq_nil_of_le (by omega)] at hr
    have h1 := hx ok (by rw [hr]; simp)
    refine gets_vc (flag [2000115] spNa) (fun k => [[2,5,6,7,8,9,10,45,46],[2,5,6,7,8,9,10],[2,5,6,7,8,9,10,66,67,68],[2,5,15,99,100,101],[2,5,15,99,100,101,121,122,123]].getD k []) (fun k => if k < 3 then [⟨1000000008, 3, .int .i64⟩] else if k = 99 then [⟨1000000002, 80, .int .u64⟩, ⟨4010002, 46, WT⟩] else []) 400 (.fork (.fork (.hd 4) (.hd 4)) (.hd 3)) (V := vq18 W S n m ms C s k ok) hmG (fun G R => by kernel_rfl) ?_
    unfold vq18
    simp only [hs1]
    simp (disch := omega) only [wrG, sameK_iff, true_and, and_true, decide_eq_true_eq, decide_eq_false_iff_not, ne_eq, not_false_eq_true, Bool.false_eq_true, Bool.true_eq_false, false_implies, true_implies, Ty.dflt, reduceCtorEq, beq_iff_eq, bne_iff_ne, beq_eq_false_iff_ne, bne_eq_false_iff_eq, Bool.not_eq_true, Bool.not_eq_eq_eq_not, Bool.not_true, Bool.not_false, gt_iff_lt, ge_iff_le, Int.not_lt, Int.not_le]
    repeat' (first | with_reducible refine And.intro ?_ ?_ | intro _)
    all_goals first | rfl | omega | assumption | trivial | (exfalso; simp_all; done) | (exfalso; omega) | skip
  | succ z ih =>
    intro k ok k0 hk hr
    have hk1 : IntKind.i64.wrap (k + 1) = k + 1 := wrG (by omega) (by omega)
    rw [drop_at (xs := C) (i := k) (0 : Int) k0 (by omega)] at hr
    simp only [List.all_cons] at hr
    have hcc := hC _ (getD_in (d := 0) (k := k.toNat) (l := C) (by omega))
    have ih2 := fun ok' => ih (k + 1) ok' (by omega) (by omega)
    refine gets_vc (flag [2000115] spNa) (fun k => [[2,5,6,7,8,9,10,45,46],[2,5,6,7,8,9,10],[2,5,6,7,8,9,10,66,67,68],[2,5,15,99,100,101],[2,5,15,99,100,101,121,122,123]].getD k []) (fun k => if k < 3 then [⟨1000000008, 3, .int .i64⟩] else if k = 99 then [⟨1000000002, 80, .int .u64⟩, ⟨4010002, 46, WT⟩] else []) 400 (.fork (.fork (.hd 4) (.hd 4)) (.hd 3)) (V := vq18 W S n m ms C s k ok) hmG (fun G R => by kernel_rfl) ?_
    unfold vq18
    simp only [Ty.dflt, hk1, take_len, List.drop_zero, List.take_length, Mi_getD, Mi_len, Nt_Mi, Int.toNat_natCast, Mi_set, Nat.zero_add, Nat.sub_zero, set_same, cast_bne0, List.length_set]
    cases ok with
    | false =>
      have h1 := ih2 false (by rw [hr]; rfl)
      simp (disch := omega) only [wrG, sameK_iff, true_and, and_true, decide_eq_true_eq, decide_eq_false_iff_not, ne_eq, not_false_eq_true, Bool.false_eq_true, Bool.true_eq_false, false_implies, true_implies, Ty.dflt, reduceCtorEq, beq_iff_eq, bne_iff_ne, beq_eq_false_iff_ne, bne_eq_false_iff_eq, Bool.not_eq_true, Bool.not_eq_eq_eq_not, Bool.not_true, Bool.not_false, gt_iff_lt, ge_iff_le, Int.not_lt, Int.not_le]
      repeat' (first | with_reducible refine And.intro ?_ ?_ | intro _)
      all_goals first | rfl | omega | assumption | trivial | (exfalso; simp_all; done) | (exfalso; omega) | skip
    | true =>
      have h1 := ih2 (m.getD (C.getD k.toNat 0).toNat 0 != 0) (by rw [hr, Bool.true_and]; rfl)
      simp (disch := omega) only [wrG, sameK_iff, true_and, and_true, decide_eq_true_eq, decide_eq_false_iff_not, ne_eq, not_false_eq_true, Bool.false_eq_true, Bool.true_eq_false, false_implies, true_implies, Ty.dflt, reduceCtorEq, beq_iff_eq, bne_iff_ne, beq_eq_false_iff_ne, bne_eq_false_iff_eq, Bool.not_eq_true, Bool.not_eq_eq_eq_not, Bool.not_true, Bool.not_false, gt_iff_lt, ge_iff_le, Int.not_lt, Int.not_le]
      repeat' (first | with_reducible refine And.intro ?_ ?_ | intro _)
      all_goals first | rfl | omega | assumption | trivial | (exfalso; simp_all; done) | (exfalso; omega) | skip
def vq19 (W : List (List Int)) (S : List Slt) (n : Nat) (m : List Nat) (ms : List (List Int)) (s : Int) (ok : Bool) (G : Nat → St → Prop) (R : D × List (Option Row) × List Row → Prop) : Prop := (decide (s < (↑S.length : Int)) = true → (0 : Int) ≤ s ∧ s < (↑S.length : Int) ∧ (ok = true → (0 : Int) ≤ s ∧ s < (↑ms.length : Int) ∧ 0 + s.toNat < ms.length ∧ SameK (KK n59 4) (KK n59 4) ∧ G 4 (stOf 143 [2, 5, 15, 99, 100, 101, 121, 122, 123] [D.ptr 0 0 0, D.ptr 1 0 0, D.ptr 2 0 0, D.sl false false ((Ty.int IntKind.i64).prod (Ty.bool.prod (Ty.int IntKind.i64).sl)) S, D.v (Value.int IntKind.i64 (↑S.length : Int)), D.v (Value.int IntKind.i64 s), D.sl false false (Ty.int IntKind.i64) (S.getD s.toNat ((Ty.int IntKind.i64).prod (Ty.bool.prod (Ty.int IntKind.i64).sl)).dflt).snd.snd, D.v (Value.int IntKind.i64 (↑(List.length (S.getD s.toNat ((Ty.int IntKind.i64).prod (Ty.bool.prod (Ty.int IntKind.i64).sl)).dflt).snd.snd) : Int)), D.v (Value.int IntKind.i64 (0 : Int))] [Slot.live (Row.box 71 [D.v (Value.slice none 0 0), D.v (Value.slice none 0 0), D.v (Value.bool false)]), Slot.live (Row.box 119 [D.sl false false (Ty.int IntKind.i64).sl W, D.sl false false ((Ty.int IntKind.i64).prod (Ty.bool.prod (Ty.int IntKind.i64).sl)) S, D.own 3 0 n (some n), D.own 4 0 ms.length none]), Slot.live (Row.box 71 [D.own 3 0 n (some n), D.own 4 0 ms.length none, D.v (Value.bool (decide ((↑(List.length (ms.getD (0 + s.toNat) (NK.mk 46 (Ty.int IntKind.i64).sl 0 3 (Ty.int IntKind.i64)).t.dflt)) : Int) > (0 : Int))))]), Slot.live (Row.data 80 (Ty.int IntKind.u64) (Mi m)), Slot.live (Row.nest (NK.mk 46 (Ty.int IntKind.i64).sl 0 3 (Ty.int IntKind.i64)) (ms.set (0 + s.toNat) (List.take (List.length (ms.getD (0 + s.toNat) (NK.mk 46 (Ty.int IntKind.i64).sl 0 3 (Ty.int IntKind.i64)).t.dflt)) (ms.getD (0 + s.toNat) (NK.mk 46 (Ty.int IntKind.i64).sl 0 3 (Ty.int IntKind.i64)).t.dflt))) none)])) ∧ (ok = false → SameK (KK n59 4) (KK n59 4) ∧ G 4 (stOf 143 [2, 5, 15, 99, 100, 101, 121, 122, 123] [D.ptr 0 0 0, D.ptr 1 0 0, D.ptr 2 0 0, D.sl false false ((Ty.int IntKind.i64).prod (Ty.bool.prod (Ty.int IntKind.i64).sl)) S, D.v (Value.int IntKind.i64 (↑S.length : Int)), D.v (Value.int IntKind.i64 s), D.sl false false (Ty.int IntKind.i64) (S.getD s.toNat ((Ty.int IntKind.i64).prod (Ty.bool.prod (Ty.int IntKind.i64).sl)).dflt).snd.snd, D.v (Value.int IntKind.i64 (↑(List.length (S.getD s.toNat ((Ty.int IntKind.i64).prod (Ty.bool.prod (Ty.int IntKind.i64).sl)).dflt).snd.snd) : Int)), D.v (Value.int IntKind.i64 (0 : Int))] [Slot.live (Row.box 71 [D.v (Value.slice none 0 0), D.v (Value.slice none 0 0), D.v (Value.bool false)]), Slot.live (Row.box 119 [D.sl false false (Ty.int IntKind.i64).sl W, D.sl false false ((Ty.int IntKind.i64).prod (Ty.bool.prod (Ty.int IntKind.i64).sl)) S, D.own 3 0 n (some n), D.own 4 0 ms.length none]), Slot.live (Row.box 71 [D.own 3 0 n (some n), D.own 4 0 ms.length none, D.v (Value.bool false)]), Slot.live (Row.data 80 (Ty.int IntKind.u64) (Mi m)), Slot.live (Row.nest (NK.mk 46 (Ty.int IntKind.i64).sl 0 3 (Ty.int IntKind.i64)) ms none)]))) ∧ (decide (s < (↑S.length : Int)) = false → R (D.tup [D.agg [D.own 0 0 n none, D.own 1 0 ms.length none, D.v (Value.bool ok)], D.v (Value.int IntKind.i64 (0 : Int))], [], [Row.data 80 (Ty.int IntKind.u64) (List.take n (List.drop 0 (Mi m))), Row.nest (NK.mk 46 (Ty.int IntKind.i64).sl 0 3 (Ty.int IntKind.i64)) ms none]))
theorem e59c (W : List (List Int)) (S : List Slt) (n : Nat) (m : List Nat) (ms : List (List Int)) (hm : m.length = n) (hms : ms.length = S.length) (hS : S.length ≤ 900) (hcell : ∀ j, j < S.length → (sAtN S j).2.2.length ≤ 300 ∧ ∀ c ∈ (sAtN S j).2.2, 0 ≤ c ∧ c < n) (rE : Bool) (z : Nat) : ∀ (s : Int) (ok : Bool), 0 ≤ s → s + z = S.length → rE = (ok && restO S m ms z s) → GetsK Try.prog Try.f59.results.toList [none,none] (KK n59) 0 (.tup [.agg [.own 0 0 n none, .own 1 0 ms.length none, .v (.bool rE)], .v (.int .i64 0)], [], [.data 80 (.int .u64) (Mi m), .nest kW ms none]) 3 (stOf 143 [2,5,15,99,100,101] [.ptr 0 0 0, .ptr 1 0 0, .ptr 2 0 0, slS S, .v (.int .i64 S.length), .v (.int .i64 s)] [.live (.box 71 [.v (.slice none 0 0), .v (.slice none 0 0), .v (.bool false)]), .live (.box 119 [slW W, slS S, .own 3 0 n (some n), .own 4 0 ms.length none]), .live (.box 71 [.own 3 0 n (some n), .own 4 0 ms.length none, .v (.bool ok)]), .live (.data 80 (.int .u64) (Mi m)), .live (.nest kW ms none)]) := by
  have ht : (Mi m).take n = Mi m := by rw [← hm]; exact Mi_take m
  induction z with
  | zero =>
    intro s ok s0 hs hr
    have hr : rE = ok := by rw [hr]; simp [restO]
    rw [hr]
    refine gets_vc (flag [2000115] spNa) (fun k => [[2,5,6,7,8,9,10,45,46],[2,5,6,7,8,9,10],[2,5,6,7,8,9,10,66,67,68],[2,5,15,99,100,101],[2,5,15,99,100,101,121,122,123]].getD k []) (fun k => if k < 3 then [⟨1000000008, 3, .int .i64⟩] else if k = 99 then [⟨1000000002, 80, .int .u64⟩, ⟨4010002, 46, WT⟩] else []) 400 (.fork (.fork (.hd 4) (.hd 4)) .stop) (V := vq19 W S n m ms s ok) hmG (fun G R => by kernel_rfl) ?_
    unfold vq19
    simp only [List.drop_zero, ht]
    simp (disch := omega) only [wrG, sameK_iff, true_and, and_true, decide_eq_true_eq, decide_eq_false_iff_not, ne_eq, not_false_eq_true, Bool.false_eq_true, Bool.true_eq_false, false_implies, true_implies, Ty.dflt, reduceCtorEq, beq_iff_eq, bne_iff_ne, beq_eq_false_iff_ne, bne_eq_false_iff_eq, Bool.not_eq_true, Bool.not_eq_eq_eq_not, Bool.not_true, Bool.not_false, gt_iff_lt, ge_iff_le, Int.not_lt, Int.not_le]
    repeat' (first | with_reducible refine And.intro ?_ ?_ | intro _)
    all_goals first | rfl | omega | assumption | trivial | (exfalso; simp_all; done) | (exfalso; omega) | skip
  | succ z ih =>
    intro s ok s0 hs hr
    obtain ⟨C, hC⟩ : ∃ C, (S.getD s.toNat (0, false, [])).2.2 = C := ⟨_, rfl⟩
    have hc1 := hcell s.toNat (by omega)
    unfold sAtN at hc1
    rw [hC] at hc1
    simp only [restO, slotAt, hC] at hr
    have ih2 := fun ok' => ih (s + 1) ok' (by omega) (by omega)
    have hd := fun ok' hr' => e59d W S n m ms C s hm s0 (by omega) hc1.2 hc1.1 (restO S m ms z (s + 1)) rE ih2 C.length 0 ok' (by omega) (by omega) hr'
    simp only [show (0 : Int).toNat = 0 by rfl, List.drop_zero] at hd
    refine gets_vc (flag [2000115] spNa) (fun k => [[2,5,6,7,8,9,10,45,46],[2,5,6,7,8,9,10],[2,5,6,7,8,9,10,66,67,68],[2,5,15,99,100,101],[2,5,15,99,100,101,121,122,123]].getD k []) (fun k => if k < 3 then [⟨1000000008, 3, .int .i64⟩] else if k = 99 then [⟨1000000002, 80, .int .u64⟩, ⟨4010002, 46, WT⟩] else []) 400 (.fork (.fork (.hd 4) (.hd 4)) .stop) (V := vq19 W S n m ms s ok) hmG (fun G R => by kernel_rfl) ?_
    unfold vq19
    simp only [Ty.dflt, hC, take_len, List.drop_zero, List.take_length, Mi_getD, Mi_len, Nt_Mi, Int.toNat_natCast, Mi_set, Nat.zero_add, Nat.sub_zero, set_same, cast_bne0, List.length_set]
    cases ok with
    | false =>
      have h1 := hd false (by rw [hr]; simp)
      simp (disch := omega) only [wrG, sameK_iff, true_and, and_true, decide_eq_true_eq, decide_eq_false_iff_not, ne_eq, not_false_eq_true, Bool.false_eq_true, Bool.true_eq_false, false_implies, true_implies, Ty.dflt, reduceCtorEq, beq_iff_eq, bne_iff_ne, beq_eq_false_iff_ne, bne_eq_false_iff_eq, Bool.not_eq_true, Bool.not_eq_eq_eq_not, Bool.not_true, Bool.not_false, gt_iff_lt, ge_iff_le, Int.not_lt, Int.not_le]
      repeat' (first | with_reducible refine And.intro ?_ ?_ | intro _)
      all_goals first | rfl | omega | assumption | trivial | (exfalso; simp_all; done) | (exfalso; omega) | skip
    | true =>
      have h1 := hd (decide (((ms.getD s.toNat []).length : Int) > 0)) (by rw [hr, Bool.true_and])
      simp (disch := omega) only [wrG, sameK_iff, true_and, and_true, decide_eq_true_eq, decide_eq_false_iff_not, ne_eq, not_false_eq_true, Bool.false_eq_true, Bool.true_eq_false, false_implies, true_implies, Ty.dflt, reduceCtorEq, beq_iff_eq, bne_iff_ne, beq_eq_false_iff_ne, bne_eq_false_iff_eq, Bool.not_eq_true, Bool.not_eq_eq_eq_not, Bool.not_true, Bool.not_false, gt_iff_lt, ge_iff_le, Int.not_lt, Int.not_le]
      repeat' (first | with_reducible refine And.intro ?_ ?_ | intro _)
      all_goals first | rfl | omega | assumption | trivial | (exfalso; simp_all; done) | (exfalso; omega) | skip
def vq20 (W : List (List Int)) (S : List Slt) (A : List (Int × Int)) (Z : List (Int × Int)) (n : Nat) (N : Nat) (m : List Nat) (ms : List (List Int)) (lo : List Int) (k : Int) (wt : List Bool) (td : List Int) (G : Nat → St → Prop) (R : D × List (Option Row) × List Row → Prop) : Prop := (decide (k < (↑lo.length : Int)) = true → (0 : Int) ≤ k ∧ k < (↑lo.length : Int) ∧ 0 + k.toNat < lo.length ∧ (0 : Int) ≤ lo.getD (0 + k.toNat) (Ty.int IntKind.i64).dflt ∧ lo.getD (0 + k.toNat) (Ty.int IntKind.i64).dflt < (↑A.length : Int) ∧ 0 + Int.toNat (lo.getD (0 + k.toNat) (Ty.int IntKind.i64).dflt) < A.length ∧ Con Try.prog 98 [Row.box 32 [D.own 1 0 N (some N)], Row.data 4 Ty.bool wt, Row.box 46 [D.own 3 0 td.length none], Row.data 3 (Ty.int IntKind.i64) td] [D.v (Value.int IntKind.i64 (A.getD (0 + Int.toNat (lo.getD (0 + k.toNat) (Ty.int IntKind.i64).dflt)) ((Ty.int IntKind.i64).prod (Ty.int IntKind.i64)).dflt).fst), D.ptr 0 0 0, D.ptr 2 0 0] (D.tup []) [some (Row.box 32 [D.own 1 0 N (some N)]), some (Row.data 4 Ty.bool (putF wt td (A.getD (0 + Int.toNat (lo.getD (0 + k.toNat) (Ty.int IntKind.i64).dflt)) ((Ty.int IntKind.i64).prod (Ty.int IntKind.i64)).dflt).fst).fst), some (Row.box 46 [D.own 4 0 (putF wt td (A.getD (0 + Int.toNat (lo.getD (0 + k.toNat) (Ty.int IntKind.i64).dflt)) ((Ty.int IntKind.i64).prod (Ty.int IntKind.i64)).dflt).fst).snd.length none]), none] [Row.data 3 (Ty.int IntKind.i64) (putF wt td (A.getD (0 + Int.toNat (lo.getD (0 + k.toNat) (Ty.int IntKind.i64).dflt)) ((Ty.int IntKind.i64).prod (Ty.int IntKind.i64)).dflt).fst).snd] ∧ Value.int IntKind.i64 (A.getD (0 + Int.toNat (lo.getD (0 + k.toNat) (Ty.int IntKind.i64).dflt)) ((Ty.int IntKind.i64).prod (Ty.int IntKind.i64)).dflt).fst = Value.int IntKind.i64 (A.getD (0 + Int.toNat (lo.getD (0 + k.toNat) (Ty.int IntKind.i64).dflt)) ((Ty.int IntKind.i64).prod (Ty.int IntKind.i64)).dflt).fst ∧ 5 = 5 ∧ 0 = 0 ∧ 0 = 0 ∧ 4 = 4 ∧ 0 = 0 ∧ 0 = 0 ∧ (putF wt td (A.getD (0 + Int.toNat (lo.getD (0 + k.toNat) (Ty.int IntKind.i64).dflt)) ((Ty.int IntKind.i64).prod (Ty.int IntKind.i64)).dflt).fst).fst.length = wt.length ∧ some (Row.box 32 [D.own 10 0 N (some N)]) = some (Row.box 32 [D.own 10 0 N (some N)]) ∧ some (Row.data 4 Ty.bool wt) = some (Row.data 4 Ty.bool wt) ∧ some (Row.box 46 [D.own 9 0 td.length none]) = some (Row.box 46 [D.own 9 0 td.length none]) ∧ some (Row.data 3 (Ty.int IntKind.i64) td) = some (Row.data 3 (Ty.int IntKind.i64) td) ∧ (0 : Int) ≤ lo.getD (0 + k.toNat) (Ty.int IntKind.i64).dflt ∧ lo.getD (0 + k.toNat) (Ty.int IntKind.i64).dflt < (↑Z.length : Int) ∧ 0 + Int.toNat (lo.getD (0 + k.toNat) (Ty.int IntKind.i64).dflt) < Z.length ∧ Con Try.prog 98 [Row.box 32 [D.own 1 0 N (some N)], Row.data 4 Ty.bool (putF wt td (A.getD (0 + Int.toNat (lo.getD (0 + k.toNat) (Ty.int IntKind.i64).dflt)) ((Ty.int IntKind.i64).prod (Ty.int IntKind.i64)).dflt).fst).fst, Row.box 46 [D.own 3 0 (putF wt td (A.getD (0 + Int.toNat (lo.getD (0 + k.toNat) (Ty.int IntKind.i64).dflt)) ((Ty.int IntKind.i64).prod (Ty.int IntKind.i64)).dflt).fst).snd.length none], Row.data 3 (Ty.int IntKind.i64) (putF wt td (A.getD (0 + Int.toNat (lo.getD (0 + k.toNat) (Ty.int IntKind.i64).dflt)) ((Ty.int IntKind.i64).prod (Ty.int IntKind.i64)).dflt).fst).snd] [D.v (Value.int IntKind.i64 (Z.getD (0 + Int.toNat (lo.getD (0 + k.toNat) (Ty.int IntKind.i64).dflt)) ((Ty.int IntKind.i64).prod (Ty.int IntKind.i64)).dflt).fst), D.ptr 0 0 0, D.ptr 2 0 0] (D.tup []) [some (Row.box 32 [D.own 1 0 N (some N)]), some (Row.data 4 Ty.bool (putF (putF wt td (A.getD (0 + Int.toNat (lo.getD (0 + k.toNat) (Ty.int IntKind.i64).dflt)) ((Ty.int IntKind.i64).prod (Ty.int IntKind.i64)).dflt).fst).fst (putF wt td (A.getD (0 + Int.toNat (lo.getD (0 + k.toNat) (Ty.int IntKind.i64).dflt)) ((Ty.int IntKind.i64).prod (Ty.int IntKind.i64)).dflt).fst).snd (Z.getD (0 + Int.toNat (lo.getD (0 + k.toNat) (Ty.int IntKind.i64).dflt)) ((Ty.int IntKind.i64).prod (Ty.int IntKind.i64)).dflt).fst).fst), some (Row.box 46 [D.own 4 0 (putF (putF wt td (A.getD (0 + Int.toNat (lo.getD (0 + k.toNat) (Ty.int IntKind.i64).dflt)) ((Ty.int IntKind.i64).prod (Ty.int IntKind.i64)).dflt).fst).fst (putF wt td (A.getD (0 + Int.toNat (lo.getD (0 + k.toNat) (Ty.int IntKind.i64).dflt)) ((Ty.int IntKind.i64).prod (Ty.int IntKind.i64)).dflt).fst).snd (Z.getD (0 + Int.toNat (lo.getD (0 + k.toNat) (Ty.int IntKind.i64).dflt)) ((Ty.int IntKind.i64).prod (Ty.int IntKind.i64)).dflt).fst).snd.length none]), none] [Row.data 3 (Ty.int IntKind.i64) (putF (putF wt td (A.getD (0 + Int.toNat (lo.getD (0 + k.toNat) (Ty.int IntKind.i64).dflt)) ((Ty.int IntKind.i64).prod (Ty.int IntKind.i64)).dflt).fst).fst (putF wt td (A.getD (0 + Int.toNat (lo.getD (0 + k.toNat) (Ty.int IntKind.i64).dflt)) ((Ty.int IntKind.i64).prod (Ty.int IntKind.i64)).dflt).fst).snd (Z.getD (0 + Int.toNat (lo.getD (0 + k.toNat) (Ty.int IntKind.i64).dflt)) ((Ty.int IntKind.i64).prod (Ty.int IntKind.i64)).dflt).fst).snd] ∧ Value.int IntKind.i64 (Z.getD (0 + Int.toNat (lo.getD (0 + k.toNat) (Ty.int IntKind.i64).dflt)) ((Ty.int IntKind.i64).prod (Ty.int IntKind.i64)).dflt).fst = Value.int IntKind.i64 (Z.getD (0 + Int.toNat (lo.getD (0 + k.toNat) (Ty.int IntKind.i64).dflt)) ((Ty.int IntKind.i64).prod (Ty.int IntKind.i64)).dflt).fst ∧ 5 = 5 ∧ 0 = 0 ∧ 0 = 0 ∧ 4 = 4 ∧ 0 = 0 ∧ 0 = 0 ∧ (putF (putF wt td (A.getD (0 + Int.toNat (lo.getD (0 + k.toNat) (Ty.int IntKind.i64).dflt)) ((Ty.int IntKind.i64).prod (Ty.int IntKind.i64)).dflt).fst).fst (putF wt td (A.getD (0 + Int.toNat (lo.getD (0 + k.toNat) (Ty.int IntKind.i64).dflt)) ((Ty.int IntKind.i64).prod (Ty.int IntKind.i64)).dflt).fst).snd (Z.getD (0 + Int.toNat (lo.getD (0 + k.toNat) (Ty.int IntKind.i64).dflt)) ((Ty.int IntKind.i64).prod (Ty.int IntKind.i64)).dflt).fst).fst.length = (putF wt td (A.getD (0 + Int.toNat (lo.getD (0 + k.toNat) (Ty.int IntKind.i64).dflt)) ((Ty.int IntKind.i64).prod (Ty.int IntKind.i64)).dflt).fst).fst.length ∧ some (Row.box 32 [D.own 10 0 N (some N)]) = some (Row.box 32 [D.own 10 0 N (some N)]) ∧ some (Row.data 4 Ty.bool (putF wt td (A.getD (0 + Int.toNat (lo.getD (0 + k.toNat) (Ty.int IntKind.i64).dflt)) ((Ty.int IntKind.i64).prod (Ty.int IntKind.i64)).dflt).fst).fst) = some (Row.data 4 Ty.bool (putF wt td (A.getD (0 + Int.toNat (lo.getD (0 + k.toNat) (Ty.int IntKind.i64).dflt)) ((Ty.int IntKind.i64).prod (Ty.int IntKind.i64)).dflt).fst).fst) ∧ some (Row.box 46 [D.own 11 0 (putF wt td (A.getD (0 + Int.toNat (lo.getD (0 + k.toNat) (Ty.int IntKind.i64).dflt)) ((Ty.int IntKind.i64).prod (Ty.int IntKind.i64)).dflt).fst).snd.length none]) = some (Row.box 46 [D.own 11 0 (putF wt td (A.getD (0 + Int.toNat (lo.getD (0 + k.toNat) (Ty.int IntKind.i64).dflt)) ((Ty.int IntKind.i64).prod (Ty.int IntKind.i64)).dflt).fst).snd.length none]) ∧ some (Row.data 3 (Ty.int IntKind.i64) (putF wt td (A.getD (0 + Int.toNat (lo.getD (0 + k.toNat) (Ty.int IntKind.i64).dflt)) ((Ty.int IntKind.i64).prod (Ty.int IntKind.i64)).dflt).fst).snd) = some (Row.data 3 (Ty.int IntKind.i64) (putF wt td (A.getD (0 + Int.toNat (lo.getD (0 + k.toNat) (Ty.int IntKind.i64).dflt)) ((Ty.int IntKind.i64).prod (Ty.int IntKind.i64)).dflt).fst).snd) ∧ SameK (KK n59 2) (KK n59 2) ∧ G 2 (stOf 143 [2, 5, 6, 7, 8, 9, 10, 66, 67, 68] [D.ptr 0 0 0, D.ptr 1 0 0, D.own 2 0 A.length none, D.own 3 0 Z.length none, D.ptr 4 0 0, D.ptr 5 0 0, D.fn 98 [D.ptr 5 0 0, D.ptr 4 0 0], D.own 6 0 lo.length none, D.v (Value.int IntKind.i64 (↑lo.length : Int)), D.v (Value.int IntKind.i64 (IntKind.i64.wrap (k + (1 : Int))))] [Slot.live (Row.box 71 [D.v (Value.slice none 0 0), D.v (Value.slice none 0 0), D.v (Value.bool false)]), Slot.live (Row.box 119 [D.sl false false (Ty.int IntKind.i64).sl W, D.sl false false ((Ty.int IntKind.i64).prod (Ty.bool.prod (Ty.int IntKind.i64).sl)) S, D.own 7 0 n (some n), D.own 8 0 ms.length none]), Slot.live (Row.data 104 ((Ty.int IntKind.i64).prod (Ty.int IntKind.i64)) A), Slot.live (Row.data 104 ((Ty.int IntKind.i64).prod (Ty.int IntKind.i64)) Z), Slot.live (Row.box 46 [D.own 9 0 (putF (putF wt td (A.getD (0 + Int.toNat (lo.getD (0 + k.toNat) (Ty.int IntKind.i64).dflt)) ((Ty.int IntKind.i64).prod (Ty.int IntKind.i64)).dflt).fst).fst (putF wt td (A.getD (0 + Int.toNat (lo.getD (0 + k.toNat) (Ty.int IntKind.i64).dflt)) ((Ty.int IntKind.i64).prod (Ty.int IntKind.i64)).dflt).fst).snd (Z.getD (0 + Int.toNat (lo.getD (0 + k.toNat) (Ty.int IntKind.i64).dflt)) ((Ty.int IntKind.i64).prod (Ty.int IntKind.i64)).dflt).fst).snd.length none]), Slot.live (Row.box 32 [D.own 10 0 N (some N)]), Slot.live (Row.data 3 (Ty.int IntKind.i64) lo), Slot.live (Row.data 80 (Ty.int IntKind.u64) (Mi m)), Slot.live (Row.nest (NK.mk 46 (Ty.int IntKind.i64).sl 0 3 (Ty.int IntKind.i64)) ms none), Slot.live (Row.data 3 (Ty.int IntKind.i64) (List.take (putF (putF wt td (A.getD (0 + Int.toNat (lo.getD (0 + k.toNat) (Ty.int IntKind.i64).dflt)) ((Ty.int IntKind.i64).prod (Ty.int IntKind.i64)).dflt).fst).fst (putF wt td (A.getD (0 + Int.toNat (lo.getD (0 + k.toNat) (Ty.int IntKind.i64).dflt)) ((Ty.int IntKind.i64).prod (Ty.int IntKind.i64)).dflt).fst).snd (Z.getD (0 + Int.toNat (lo.getD (0 + k.toNat) (Ty.int IntKind.i64).dflt)) ((Ty.int IntKind.i64).prod (Ty.int IntKind.i64)).dflt).fst).snd.length (List.drop 0 (putF (putF wt td (A.getD (0 + Int.toNat (lo.getD (0 + k.toNat) (Ty.int IntKind.i64).dflt)) ((Ty.int IntKind.i64).prod (Ty.int IntKind.i64)).dflt).fst).fst (putF wt td (A.getD (0 + Int.toNat (lo.getD (0 + k.toNat) (Ty.int IntKind.i64).dflt)) ((Ty.int IntKind.i64).prod (Ty.int IntKind.i64)).dflt).fst).snd (Z.getD (0 + Int.toNat (lo.getD (0 + k.toNat) (Ty.int IntKind.i64).dflt)) ((Ty.int IntKind.i64).prod (Ty.int IntKind.i64)).dflt).fst).snd))), Slot.live (Row.data 4 Ty.bool (putF (putF wt td (A.getD (0 + Int.toNat (lo.getD (0 + k.toNat) (Ty.int IntKind.i64).dflt)) ((Ty.int IntKind.i64).prod (Ty.int IntKind.i64)).dflt).fst).fst (putF wt td (A.getD (0 + Int.toNat (lo.getD (0 + k.toNat) (Ty.int IntKind.i64).dflt)) ((Ty.int IntKind.i64).prod (Ty.int IntKind.i64)).dflt).fst).snd (Z.getD (0 + Int.toNat (lo.getD (0 + k.toNat) (Ty.int IntKind.i64).dflt)) ((Ty.int IntKind.i64).prod (Ty.int IntKind.i64)).dflt).fst).fst)])) ∧ (decide (k < (↑lo.length : Int)) = false → SameK (KK n59 1) (KK n59 1) ∧ G 1 (stOf 143 [2, 5, 6, 7, 8, 9, 10] [D.ptr 0 0 0, D.ptr 1 0 0, D.own 2 0 A.length none, D.own 3 0 Z.length none, D.ptr 4 0 0, D.ptr 5 0 0, D.fn 98 [D.ptr 5 0 0, D.ptr 4 0 0]] [Slot.live (Row.box 71 [D.v (Value.slice none 0 0), D.v (Value.slice none 0 0), D.v (Value.bool false)]), Slot.live (Row.box 119 [D.sl false false (Ty.int IntKind.i64).sl W, D.sl false false ((Ty.int IntKind.i64).prod (Ty.bool.prod (Ty.int IntKind.i64).sl)) S, D.own 6 0 n (some n), D.own 7 0 ms.length none]), Slot.live (Row.data 104 ((Ty.int IntKind.i64).prod (Ty.int IntKind.i64)) A), Slot.live (Row.data 104 ((Ty.int IntKind.i64).prod (Ty.int IntKind.i64)) Z), Slot.live (Row.box 46 [D.own 8 0 td.length none]), Slot.live (Row.box 32 [D.own 9 0 N (some N)]), Slot.live (Row.data 80 (Ty.int IntKind.u64) (Mi m)), Slot.live (Row.nest (NK.mk 46 (Ty.int IntKind.i64).sl 0 3 (Ty.int IntKind.i64)) ms none), Slot.live (Row.data 3 (Ty.int IntKind.i64) (List.take td.length (List.drop 0 td))), Slot.live (Row.data 4 Ty.bool wt)]))
theorem e59b (W : List (List Int)) (S : List Slt) (A Z : List (Int × Int)) (n N : Nat) (m : List Nat) (ms : List (List Int)) (lo : List Int) (hN : N ≤ 900) (hlo : lo.length ≤ 300) (hA : A.length = n) (hZ : Z.length = n) (hl : ∀ c ∈ lo, 0 ≤ c ∧ c < n) (iA : ∀ c : Nat, (A.getD c (-1, 0)).1 < N) (iZ : ∀ c : Nat, (Z.getD c (-1, 0)).1 < N) (tE : List Int) (wE : List Bool) (mE : List Nat) (sE : List (List Int)) (rE : Bool) (hx : GetsK Try.prog Try.f59.results.toList [none,none] (KK n59) 0 (.tup [.agg [.own 0 0 n none, .own 1 0 sE.length none, .v (.bool rE)], .v (.int .i64 0)], [], [.data 80 (.int .u64) (Mi mE), .nest kW sE none]) 1 (stOf 143 [2,5,6,7,8,9,10] [.ptr 0 0 0, .ptr 1 0 0, .own 2 0 A.length none, .own 3 0 Z.length none, .ptr 4 0 0, .ptr 5 0 0, .fn 98 [.ptr 5 0 0, .ptr 4 0 0]] [.live (.box 71 [.v (.slice none 0 0), .v (.slice none 0 0), .v (.bool false)]), .live (.box 119 [slW W, slS S, .own 6 0 n (some n), .own 7 0 ms.length none]), .live (.data 104 SeT A), .live (.data 104 SeT Z), .live (.box 46 [.own 8 0 tE.length none]), .live (.box 32 [.own 9 0 N (some N)]), .live (.data 80 (.int .u64) (Mi m)), .live (.nest kW ms none), .live (.data 3 (.int .i64) tE), .live (.data 4 .bool wE)])) (z : Nat) : ∀ (k : Int) (wt : List Bool) (td : List Int), 0 ≤ k → k + z = lo.length → Queue wt td N → putsF A Z (lo.drop k.toNat) (wt, td) = (wE, tE) → GetsK Try.prog Try.f59.results.toList [none,none] (KK n59) 0 (.tup [.agg [.own 0 0 n none, .own 1 0 sE.length none, .v (.bool rE)], .v (.int .i64 0)], [], [.data 80 (.int .u64) (Mi mE), .nest kW sE none]) 2 (stOf 143 [2,5,6,7,8,9,10,66,67,68] [.ptr 0 0 0, .ptr 1 0 0, .own 2 0 A.length none, .own 3 0 Z.length none, .ptr 4 0 0, .ptr 5 0 0, .fn 98 [.ptr 5 0 0, .ptr 4 0 0], .own 6 0 lo.length none, .v (.int .i64 lo.length), .v (.int .i64 k)] [.live (.box 71 [.v (.slice none 0 0), .v (.slice none 0 0), .v (.bool false)]), .live (.box 119 [slW W, slS S, .own 7 0 n (some n), .own 8 0 ms.length none]), .live (.data 104 SeT A), .live (.data 104 SeT Z), .live (.box 46 [.own 9 0 td.length none]), .live (.box 32 [.own 10 0 N (some N)]), .live (.data 3 (.int .i64) lo), .live (.data 80 (.int .u64) (Mi m)), .live (.nest kW ms none), .live (.data 3 (.int .i64) td), .live (.data 4 .bool wt)]) := by
  induction z with
  | zero =>
    intro k wt td k0 hk q he
    rw [List.drop_eq_nil_of_le (by omega)] at he
    have he : (wt, td) = (wE, tE) := he
    rw [Prod.mk.injEq] at he
    obtain ⟨rfl, rfl⟩ := he
    refine gets_vc (flag [2000115] spNa) (fun k => [[2,5,6,7,8,9,10,45,46],[2,5,6,7,8,9,10],[2,5,6,7,8,9,10,66,67,68],[2,5,15,99,100,101],[2,5,15,99,100,101,121,122,123]].getD k []) (fun k => if k < 3 then [⟨1000000008, 3, .int .i64⟩] else if k = 99 then [⟨1000000002, 80, .int .u64⟩, ⟨4010002, 46, WT⟩] else []) 400 (.fork (.hd 2) (.hd 1)) (V := vq20 W S A Z n N m ms lo k wt td) hmG (fun G R => by kernel_rfl) ?_
    unfold vq20
    simp only [List.drop_zero, List.take_length]
    simp (disch := omega) only [wrG, sameK_iff, true_and, and_true, decide_eq_true_eq, decide_eq_false_iff_not, ne_eq, not_false_eq_true, Bool.false_eq_true, Bool.true_eq_false, false_implies, true_implies, Ty.dflt, reduceCtorEq, beq_iff_eq, bne_iff_ne, beq_eq_false_iff_ne, bne_eq_false_iff_eq, Bool.not_eq_true, Bool.not_eq_eq_eq_not, Bool.not_true, Bool.not_false, gt_iff_lt, ge_iff_le, Int.not_lt, Int.not_le]
    repeat' (first | with_reducible refine And.intro ?_ ?_ | intro _)
    all_goals first | rfl | omega | assumption | trivial | (exfalso; simp_all; done) | (exfalso; omega) | skip
  | succ z ih =>
    intro k wt td k0 hk q he
    have hk1 : IntKind.i64.wrap (k + 1) = k + 1 := wrG (by omega) (by omega)
    rw [drop_at (xs := lo) (i := k) (0 : Int) k0 (by omega)] at he
    simp only [putsF] at he
    have hc := hl _ (getD_in (d := 0) (k := k.toNat) (l := lo) (by omega))
    obtain ⟨c, hcc⟩ : ∃ c, lo.getD k.toNat 0 = c := ⟨_, rfl⟩
    rw [hcc] at he hc
    have a0 : (A.getD c.toNat (0, 0)) = A.getD c.toNat (-1, 0) := by
      rw [List.getD_eq_getElem?_getD, List.getD_eq_getElem?_getD, List.getElem?_eq_getElem (by omega)]
      rfl
    have z0 : (Z.getD c.toNat (0, 0)) = Z.getD c.toNat (-1, 0) := by
      rw [List.getD_eq_getElem?_getD, List.getD_eq_getElem?_getD, List.getElem?_eq_getElem (by omega)]
      rfl
    obtain ⟨q1, _, _⟩ := put_queue q (iA c.toNat)
    obtain ⟨q2, _, _⟩ := put_queue q1 (iZ c.toNat)
    have l0 := q.long
    have l1 := q1.long
    have c1 := d98 (A.getD c.toNat (-1, 0)).1 N td.length wt td q.len rfl (iA _) (by omega)
    have c2 := d98 (Z.getD c.toNat (-1, 0)).1 N (putF wt td (A.getD c.toNat (-1, 0)).1).2.length (putF wt td (A.getD c.toNat (-1, 0)).1).1 (putF wt td (A.getD c.toNat (-1, 0)).1).2 q1.len rfl (iZ _) (by omega)
    have h1 := ih (k + 1) _ _ (by omega) (by omega) q2 he
    have n1 : (putF wt td (A.getD c.toNat (-1, 0)).1).1.length = wt.length := by rw [q1.len, q.len]
    have n2 : (putF (putF wt td (A.getD c.toNat (-1, 0)).1).1 (putF wt td (A.getD c.toNat (-1, 0)).1).2 (Z.getD c.toNat (-1, 0)).1).1.length = (putF wt td (A.getD c.toNat (-1, 0)).1).1.length := by rw [q2.len, q1.len]
    refine gets_vc (flag [2000115] spNa) (fun k => [[2,5,6,7,8,9,10,45,46],[2,5,6,7,8,9,10],[2,5,6,7,8,9,10,66,67,68],[2,5,15,99,100,101],[2,5,15,99,100,101,121,122,123]].getD k []) (fun k => if k < 3 then [⟨1000000008, 3, .int .i64⟩] else if k = 99 then [⟨1000000002, 80, .int .u64⟩, ⟨4010002, 46, WT⟩] else []) 400 (.fork (.hd 2) (.hd 1)) (V := vq20 W S A Z n N m ms lo k wt td) hmG (fun G R => by kernel_rfl) ?_
    unfold vq20
    simp only [Ty.dflt, hk1, Nat.zero_add, hcc, a0, z0, List.drop_zero, List.take_length]
    simp (disch := omega) only [wrG, sameK_iff, true_and, and_true, decide_eq_true_eq, decide_eq_false_iff_not, ne_eq, not_false_eq_true, Bool.false_eq_true, Bool.true_eq_false, false_implies, true_implies, Ty.dflt, reduceCtorEq, beq_iff_eq, bne_iff_ne, beq_eq_false_iff_ne, bne_eq_false_iff_eq, Bool.not_eq_true, Bool.not_eq_eq_eq_not, Bool.not_true, Bool.not_false, gt_iff_lt, ge_iff_le, Int.not_lt, Int.not_le]
    repeat' (first | with_reducible refine And.intro ?_ ?_ | intro _)
    all_goals first | rfl | omega | assumption | trivial | (exfalso; simp_all; done) | (exfalso; omega) | skip
theorem e59a (W : List (List Int)) (S : List Slt) (A Z : List (Int × Int)) (n : Nat) (m0 : List Nat) (hn : m0.length = n) (F : Fine W S m0) (hS : S.length ≤ 900) (B : Board W S m0.length A Z) (hA : A.length = n) (hZ : Z.length = n) (N : Nat) (hN : N = S.length) (mE : List Nat) (sE : List (List Int)) (rE : Bool) (h1 : mE = gfpF W S m0) (h2 : sE = wordsF W S mE) (h3 : rE = okF S mE sE) (q : Nat) : ∀ (m : List Nat) (ms : List (List Int)) (wt : List Bool) (td : List Int), m.sum * (S.length + 1) + td.length < q → Inv W S m0 m ms wt td → GetsK Try.prog Try.f59.results.toList [none,none] (KK n59) 0 (.tup [.agg [.own 0 0 n none, .own 1 0 sE.length none, .v (.bool rE)], .v (.int .i64 0)], [], [.data 80 (.int .u64) (Mi mE), .nest kW sE none]) 1 (stOf 143 [2,5,6,7,8,9,10] [.ptr 0 0 0, .ptr 1 0 0, .own 2 0 A.length none, .own 3 0 Z.length none, .ptr 4 0 0, .ptr 5 0 0, .fn 98 [.ptr 5 0 0, .ptr 4 0 0]] [.live (.box 71 [.v (.slice none 0 0), .v (.slice none 0 0), .v (.bool false)]), .live (.box 119 [slW W, slS S, .own 6 0 n (some n), .own 7 0 ms.length none]), .live (.data 104 SeT A), .live (.data 104 SeT Z), .live (.box 46 [.own 8 0 td.length none]), .live (.box 32 [.own 9 0 N (some N)]), .live (.data 80 (.int .u64) (Mi m)), .live (.nest kW ms none), .live (.data 3 (.int .i64) td), .live (.data 4 .bool wt)]) := by
  induction q with
  | zero => intro m ms wt td h; omega
  | succ q ih =>
    intro m ms wt td hq I
    have hm : m.length = n := by rw [I.len, hn]
    cases td with
    | nil =>
      obtain ⟨e1, e2⟩ := I.done
      rw [← h1] at e1
      rw [e1, ← h2] at e2
      subst e1; subst e2
      have hx := e59c W S n m ms hm I.may hS (fun j hj => by
        have := F.cells _ (getD_in (d := (0, false, [])) hj)
        rw [hn] at this
        exact this) rE S.length 0 true (by omega) (by omega) (by rw [restO_ok I.may, h3]; rfl)
      refine gets_vc (flag [2000115] spNa) (fun k => [[2,5,6,7,8,9,10,45,46],[2,5,6,7,8,9,10],[2,5,6,7,8,9,10,66,67,68],[2,5,15,99,100,101],[2,5,15,99,100,101,121,122,123]].getD k []) (fun k => if k < 3 then [⟨1000000008, 3, .int .i64⟩] else if k = 99 then [⟨1000000002, 80, .int .u64⟩, ⟨4010002, 46, WT⟩] else []) 400 (.fork (.hd 2) (.hd 3)) (V := fun G R => (decide ((↑0 : Int) > (0 : Int)) = true → (0 : Int) ≤ (0 : Int) ∧ (0 : Int) < (↑0 : Int) ∧ 0 < 0 ∧ (0 : Int) ≤ (1 : Int) ∧ (1 : Int) ≤ (↑0 : Int) ∧ (↑0 : Int) ≤ (↑0 : Int) ∧ (0 : Int) ≤ [].getD 0 (Ty.int IntKind.i64).dflt ∧ [].getD 0 (Ty.int IntKind.i64).dflt < (↑N : Int) ∧ 0 < wt.length ∧ Con Try.prog 99 [Row.box 119 [D.sl false false (Ty.int IntKind.i64).sl W, D.sl false false ((Ty.int IntKind.i64).prod (Ty.bool.prod (Ty.int IntKind.i64).sl)) S, D.own 1 0 n (some n), D.own 2 0 ms.length none], Row.data 80 (Ty.int IntKind.u64) (Mi (Nt (Mi m))), Row.nest (NK.mk 46 (Ty.int IntKind.i64).sl 0 3 (Ty.int IntKind.i64)) ms none] [D.ptr 0 0 0, D.v (Value.int IntKind.i64 ([].getD 0 (Ty.int IntKind.i64).dflt))] (D.own 3 0 (lostC W (Nt (Mi m)) (slotAt S ([].getD 0 (Ty.int IntKind.i64).dflt)).snd.snd (ms.getD 0 [])).length none) [some (Row.box 119 [D.sl false false (Ty.int IntKind.i64).sl W, D.sl false false ((Ty.int IntKind.i64).prod (Ty.bool.prod (Ty.int IntKind.i64).sl)) S, D.own 1 0 n (some n), D.own 2 0 ms.length none]), some (Row.data 80 (Ty.int IntKind.u64) (Mi (lookC W (Nt (Mi m)) (slotAt S ([].getD 0 (Ty.int IntKind.i64).dflt)).snd.snd (ms.getD 0 [])))), some (Row.nest (NK.mk 46 (Ty.int IntKind.i64).sl 0 3 (Ty.int IntKind.i64)) (ms.set 0 (keepI W (Nt (Mi m)) (slotAt S ([].getD 0 (Ty.int IntKind.i64).dflt)).snd.snd (ms.getD 0 []))) none)] [Row.data 3 (Ty.int IntKind.i64) (lostC W (Nt (Mi m)) (slotAt S ([].getD 0 (Ty.int IntKind.i64).dflt)).snd.snd (ms.getD 0 []))] ∧ 1 = 1 ∧ 0 = 0 ∧ 0 = 0 ∧ Value.int IntKind.i64 ([].getD 0 (Ty.int IntKind.i64).dflt) = Value.int IntKind.i64 ([].getD 0 (Ty.int IntKind.i64).dflt) ∧ (Mi (lookC W (Nt (Mi m)) (slotAt S ([].getD 0 (Ty.int IntKind.i64).dflt)).snd.snd (ms.getD 0 []))).length = (Mi (Nt (Mi m))).length ∧ (ms.set 0 (keepI W (Nt (Mi m)) (slotAt S ([].getD 0 (Ty.int IntKind.i64).dflt)).snd.snd (ms.getD 0 []))).length = ms.length ∧ some (Row.box 119 [D.sl false false (Ty.int IntKind.i64).sl W, D.sl false false ((Ty.int IntKind.i64).prod (Ty.bool.prod (Ty.int IntKind.i64).sl)) S, D.own 6 0 n (some n), D.own 7 0 ms.length none]) = some (Row.box 119 [D.sl false false (Ty.int IntKind.i64).sl W, D.sl false false ((Ty.int IntKind.i64).prod (Ty.bool.prod (Ty.int IntKind.i64).sl)) S, D.own 6 0 n (some n), D.own 7 0 ms.length none]) ∧ some (Row.data 80 (Ty.int IntKind.u64) (Mi m)) = some (Row.data 80 (Ty.int IntKind.u64) (Mi (Nt (Mi m)))) ∧ some (Row.nest (NK.mk 46 (Ty.int IntKind.i64).sl 0 3 (Ty.int IntKind.i64)) ms none) = some (Row.nest (NK.mk 46 (Ty.int IntKind.i64).sl 0 3 (Ty.int IntKind.i64)) ms none) ∧ SameK (KK n59 2) (KK n59 2) ∧ G 2 (stOf 143 [2, 5, 6, 7, 8, 9, 10, 66, 67, 68] [D.ptr 0 0 0, D.ptr 1 0 0, D.own 2 0 A.length none, D.own 3 0 Z.length none, D.ptr 4 0 0, D.ptr 5 0 0, D.fn 98 [D.ptr 5 0 0, D.ptr 4 0 0], D.own 6 0 (lostC W (Nt (Mi m)) (slotAt S ([].getD 0 (Ty.int IntKind.i64).dflt)).snd.snd (ms.getD 0 [])).length none, D.v (Value.int IntKind.i64 (↑(lostC W (Nt (Mi m)) (slotAt S ([].getD 0 (Ty.int IntKind.i64).dflt)).snd.snd (ms.getD 0 [])).length : Int)), D.v (Value.int IntKind.i64 (0 : Int))] [Slot.live (Row.box 71 [D.v (Value.slice none 0 0), D.v (Value.slice none 0 0), D.v (Value.bool false)]), Slot.live (Row.box 119 [D.sl false false (Ty.int IntKind.i64).sl W, D.sl false false ((Ty.int IntKind.i64).prod (Ty.bool.prod (Ty.int IntKind.i64).sl)) S, D.own 7 0 n (some n), D.own 8 0 ms.length none]), Slot.live (Row.data 104 ((Ty.int IntKind.i64).prod (Ty.int IntKind.i64)) A), Slot.live (Row.data 104 ((Ty.int IntKind.i64).prod (Ty.int IntKind.i64)) Z), Slot.live (Row.box 46 [D.own 9 0 0 none]), Slot.live (Row.box 32 [D.own 10 0 N (some N)]), Slot.live (Row.data 3 (Ty.int IntKind.i64) (lostC W (Nt (Mi m)) (slotAt S ([].getD 0 (Ty.int IntKind.i64).dflt)).snd.snd (ms.getD 0 []))), Slot.live (Row.data 80 (Ty.int IntKind.u64) (Mi (lookC W (Nt (Mi m)) (slotAt S ([].getD 0 (Ty.int IntKind.i64).dflt)).snd.snd (ms.getD 0 [])))), Slot.live (Row.nest (NK.mk 46 (Ty.int IntKind.i64).sl 0 3 (Ty.int IntKind.i64)) (ms.set 0 (keepI W (Nt (Mi m)) (slotAt S ([].getD 0 (Ty.int IntKind.i64).dflt)).snd.snd (ms.getD 0 []))) none), Slot.live (Row.data 3 (Ty.int IntKind.i64) (List.take 0 (List.drop 1 []))), Slot.live (Row.data 4 Ty.bool (wt.set 0 false))])) ∧ (decide ((↑0 : Int) > (0 : Int)) = false → SameK (KK n59 3) (KK n59 3) ∧ G 3 (stOf 143 [2, 5, 15, 99, 100, 101] [D.ptr 0 0 0, D.ptr 1 0 0, D.ptr 2 0 0, D.sl false false ((Ty.int IntKind.i64).prod (Ty.bool.prod (Ty.int IntKind.i64).sl)) S, D.v (Value.int IntKind.i64 (↑S.length : Int)), D.v (Value.int IntKind.i64 (0 : Int))] [Slot.live (Row.box 71 [D.v (Value.slice none 0 0), D.v (Value.slice none 0 0), D.v (Value.bool false)]), Slot.live (Row.box 119 [D.sl false false (Ty.int IntKind.i64).sl W, D.sl false false ((Ty.int IntKind.i64).prod (Ty.bool.prod (Ty.int IntKind.i64).sl)) S, D.own 3 0 n (some n), D.own 4 0 ms.length none]), Slot.live (Row.box 71 [D.own 3 0 n (some n), D.own 4 0 ms.length none, D.v (Value.bool true)]), Slot.live (Row.data 80 (Ty.int IntKind.u64) (Mi m)), Slot.live (Row.nest (NK.mk 46 (Ty.int IntKind.i64).sl 0 3 (Ty.int IntKind.i64)) ms none)]))) hmG (fun G R => by kernel_rfl) ?_
      simp (disch := omega) only [wrG, sameK_iff, true_and, and_true, decide_eq_true_eq, decide_eq_false_iff_not, ne_eq, not_false_eq_true, Bool.false_eq_true, Bool.true_eq_false, false_implies, true_implies, Ty.dflt, reduceCtorEq, beq_iff_eq, bne_iff_ne, beq_eq_false_iff_ne, bne_eq_false_iff_eq, Bool.not_eq_true, Bool.not_eq_eq_eq_not, Bool.not_true, Bool.not_false, gt_iff_lt, ge_iff_le, Int.not_lt, Int.not_le]
      repeat' (first | with_reducible refine And.intro ?_ ?_ | intro _)
      all_goals first | rfl | omega | assumption | trivial | (exfalso; simp_all; done) | (exfalso; omega) | skip
    | cons s td =>
      obtain ⟨s0, s1, L⟩ := Inv.look B F I
      have c1 := d99 W S m ms s s0 s1 I.may L
      rw [hm] at c1
      have qs := I.q
      have hwl := qs.len
      obtain ⟨C, hC⟩ : ∃ C, (slotAt S s).2.2 = C := ⟨_, rfl⟩
      obtain ⟨l, hl⟩ : ∃ l, ms.getD s.toNat [] = l := ⟨_, rfl⟩
      obtain ⟨I2, M2⟩ := Inv.step B I hC hl
      have hc := F.cells (slotAt S s) (by unfold slotAt; exact getD_in (by omega))
      rw [hC] at hc
      rw [hC, hl] at c1
      have hlost : ∀ c ∈ lostC W m C l, 0 ≤ c ∧ c < n := fun c h => by
        rw [← hn]
        exact hc.2 c (lost_sub _ _ _ _ c h)
      have hll : (lostC W m C l).length ≤ 300 := Nat.le_trans (lost_len _ _ _ _) hc.1
      have hlm : (lookC W m C l).length = m.length := by rw [I2.len, I.len]
      have hx := ih _ _ _ _ (by simp only [List.length_cons] at hq; omega) I2
      rw [List.length_set] at hx
      have hb := e59b W S A Z n N (lookC W m C l) (ms.set s.toNat (keepI W m C l)) (lostC W m C l) (by omega) hll hA hZ hlost (by rw [hN]; exact B.inA) (by rw [hN]; exact B.inD) _ _ mE sE rE (by rw [List.length_set]; exact hx) (lostC W m C l).length 0 (wt.set s.toNat false) td (by omega) (by omega) (by rw [hN]; exact pop_queue qs) rfl
      rw [List.length_set] at hb
      refine gets_vc (flag [2000115] spNa) (fun k => [[2,5,6,7,8,9,10,45,46],[2,5,6,7,8,9,10],[2,5,6,7,8,9,10,66,67,68],[2,5,15,99,100,101],[2,5,15,99,100,101,121,122,123]].getD k []) (fun k => if k < 3 then [⟨1000000008, 3, .int .i64⟩] else if k = 99 then [⟨1000000002, 80, .int .u64⟩, ⟨4010002, 46, WT⟩] else []) 400 (.fork (.hd 2) (.hd 3)) (V := fun G R => (decide ((↑(s :: td).length : Int) > (0 : Int)) = true → (0 : Int) ≤ (0 : Int) ∧ (0 : Int) < (↑(s :: td).length : Int) ∧ 0 < (s :: td).length ∧ (0 : Int) ≤ (1 : Int) ∧ (1 : Int) ≤ (↑(s :: td).length : Int) ∧ (↑(s :: td).length : Int) ≤ (↑((s :: td).length - 0) : Int) ∧ (0 : Int) ≤ (s :: td).getD 0 (Ty.int IntKind.i64).dflt ∧ (s :: td).getD 0 (Ty.int IntKind.i64).dflt < (↑N : Int) ∧ 0 + Int.toNat ((s :: td).getD 0 (Ty.int IntKind.i64).dflt) < wt.length ∧ Con Try.prog 99 [Row.box 119 [D.sl false false (Ty.int IntKind.i64).sl W, D.sl false false ((Ty.int IntKind.i64).prod (Ty.bool.prod (Ty.int IntKind.i64).sl)) S, D.own 1 0 n (some n), D.own 2 0 ms.length none], Row.data 80 (Ty.int IntKind.u64) (Mi (Nt (Mi m))), Row.nest (NK.mk 46 (Ty.int IntKind.i64).sl 0 3 (Ty.int IntKind.i64)) ms none] [D.ptr 0 0 0, D.v (Value.int IntKind.i64 ((s :: td).getD 0 (Ty.int IntKind.i64).dflt))] (D.own 3 0 (lostC W (Nt (Mi m)) (slotAt S ((s :: td).getD 0 (Ty.int IntKind.i64).dflt)).snd.snd (ms.getD (Int.toNat ((s :: td).getD 0 (Ty.int IntKind.i64).dflt)) [])).length none) [some (Row.box 119 [D.sl false false (Ty.int IntKind.i64).sl W, D.sl false false ((Ty.int IntKind.i64).prod (Ty.bool.prod (Ty.int IntKind.i64).sl)) S, D.own 1 0 n (some n), D.own 2 0 ms.length none]), some (Row.data 80 (Ty.int IntKind.u64) (Mi (lookC W (Nt (Mi m)) (slotAt S ((s :: td).getD 0 (Ty.int IntKind.i64).dflt)).snd.snd (ms.getD (Int.toNat ((s :: td).getD 0 (Ty.int IntKind.i64).dflt)) [])))), some (Row.nest (NK.mk 46 (Ty.int IntKind.i64).sl 0 3 (Ty.int IntKind.i64)) (ms.set (Int.toNat ((s :: td).getD 0 (Ty.int IntKind.i64).dflt)) (keepI W (Nt (Mi m)) (slotAt S ((s :: td).getD 0 (Ty.int IntKind.i64).dflt)).snd.snd (ms.getD (Int.toNat ((s :: td).getD 0 (Ty.int IntKind.i64).dflt)) []))) none)] [Row.data 3 (Ty.int IntKind.i64) (lostC W (Nt (Mi m)) (slotAt S ((s :: td).getD 0 (Ty.int IntKind.i64).dflt)).snd.snd (ms.getD (Int.toNat ((s :: td).getD 0 (Ty.int IntKind.i64).dflt)) []))] ∧ 1 = 1 ∧ 0 = 0 ∧ 0 = 0 ∧ Value.int IntKind.i64 ((s :: td).getD 0 (Ty.int IntKind.i64).dflt) = Value.int IntKind.i64 ((s :: td).getD 0 (Ty.int IntKind.i64).dflt) ∧ (Mi (lookC W (Nt (Mi m)) (slotAt S ((s :: td).getD 0 (Ty.int IntKind.i64).dflt)).snd.snd (ms.getD (Int.toNat ((s :: td).getD 0 (Ty.int IntKind.i64).dflt)) []))).length = (Mi (Nt (Mi m))).length ∧ (ms.set (Int.toNat ((s :: td).getD 0 (Ty.int IntKind.i64).dflt)) (keepI W (Nt (Mi m)) (slotAt S ((s :: td).getD 0 (Ty.int IntKind.i64).dflt)).snd.snd (ms.getD (Int.toNat ((s :: td).getD 0 (Ty.int IntKind.i64).dflt)) []))).length = ms.length ∧ some (Row.box 119 [D.sl false false (Ty.int IntKind.i64).sl W, D.sl false false ((Ty.int IntKind.i64).prod (Ty.bool.prod (Ty.int IntKind.i64).sl)) S, D.own 6 0 n (some n), D.own 7 0 ms.length none]) = some (Row.box 119 [D.sl false false (Ty.int IntKind.i64).sl W, D.sl false false ((Ty.int IntKind.i64).prod (Ty.bool.prod (Ty.int IntKind.i64).sl)) S, D.own 6 0 n (some n), D.own 7 0 ms.length none]) ∧ some (Row.data 80 (Ty.int IntKind.u64) (Mi m)) = some (Row.data 80 (Ty.int IntKind.u64) (Mi (Nt (Mi m)))) ∧ some (Row.nest (NK.mk 46 (Ty.int IntKind.i64).sl 0 3 (Ty.int IntKind.i64)) ms none) = some (Row.nest (NK.mk 46 (Ty.int IntKind.i64).sl 0 3 (Ty.int IntKind.i64)) ms none) ∧ SameK (KK n59 2) (KK n59 2) ∧ G 2 (stOf 143 [2, 5, 6, 7, 8, 9, 10, 66, 67, 68] [D.ptr 0 0 0, D.ptr 1 0 0, D.own 2 0 A.length none, D.own 3 0 Z.length none, D.ptr 4 0 0, D.ptr 5 0 0, D.fn 98 [D.ptr 5 0 0, D.ptr 4 0 0], D.own 6 0 (lostC W (Nt (Mi m)) (slotAt S ((s :: td).getD 0 (Ty.int IntKind.i64).dflt)).snd.snd (ms.getD (Int.toNat ((s :: td).getD 0 (Ty.int IntKind.i64).dflt)) [])).length none, D.v (Value.int IntKind.i64 (↑(lostC W (Nt (Mi m)) (slotAt S ((s :: td).getD 0 (Ty.int IntKind.i64).dflt)).snd.snd (ms.getD (Int.toNat ((s :: td).getD 0 (Ty.int IntKind.i64).dflt)) [])).length : Int)), D.v (Value.int IntKind.i64 (0 : Int))] [Slot.live (Row.box 71 [D.v (Value.slice none 0 0), D.v (Value.slice none 0 0), D.v (Value.bool false)]), Slot.live (Row.box 119 [D.sl false false (Ty.int IntKind.i64).sl W, D.sl false false ((Ty.int IntKind.i64).prod (Ty.bool.prod (Ty.int IntKind.i64).sl)) S, D.own 7 0 n (some n), D.own 8 0 ms.length none]), Slot.live (Row.data 104 ((Ty.int IntKind.i64).prod (Ty.int IntKind.i64)) A), Slot.live (Row.data 104 ((Ty.int IntKind.i64).prod (Ty.int IntKind.i64)) Z), Slot.live (Row.box 46 [D.own 9 0 ((↑(s :: td).length : Int).toNat - 1) none]), Slot.live (Row.box 32 [D.own 10 0 N (some N)]), Slot.live (Row.data 3 (Ty.int IntKind.i64) (lostC W (Nt (Mi m)) (slotAt S ((s :: td).getD 0 (Ty.int IntKind.i64).dflt)).snd.snd (ms.getD (Int.toNat ((s :: td).getD 0 (Ty.int IntKind.i64).dflt)) []))), Slot.live (Row.data 80 (Ty.int IntKind.u64) (Mi (lookC W (Nt (Mi m)) (slotAt S ((s :: td).getD 0 (Ty.int IntKind.i64).dflt)).snd.snd (ms.getD (Int.toNat ((s :: td).getD 0 (Ty.int IntKind.i64).dflt)) [])))), Slot.live (Row.nest (NK.mk 46 (Ty.int IntKind.i64).sl 0 3 (Ty.int IntKind.i64)) (ms.set (Int.toNat ((s :: td).getD 0 (Ty.int IntKind.i64).dflt)) (keepI W (Nt (Mi m)) (slotAt S ((s :: td).getD 0 (Ty.int IntKind.i64).dflt)).snd.snd (ms.getD (Int.toNat ((s :: td).getD 0 (Ty.int IntKind.i64).dflt)) []))) none), Slot.live (Row.data 3 (Ty.int IntKind.i64) (List.take ((↑(s :: td).length : Int).toNat - 1) (List.drop 1 (s :: td)))), Slot.live (Row.data 4 Ty.bool (wt.set (0 + Int.toNat ((s :: td).getD 0 (Ty.int IntKind.i64).dflt)) false))])) ∧ (decide ((↑(s :: td).length : Int) > (0 : Int)) = false → SameK (KK n59 3) (KK n59 3) ∧ G 3 (stOf 143 [2, 5, 15, 99, 100, 101] [D.ptr 0 0 0, D.ptr 1 0 0, D.ptr 2 0 0, D.sl false false ((Ty.int IntKind.i64).prod (Ty.bool.prod (Ty.int IntKind.i64).sl)) S, D.v (Value.int IntKind.i64 (↑S.length : Int)), D.v (Value.int IntKind.i64 (0 : Int))] [Slot.live (Row.box 71 [D.v (Value.slice none 0 0), D.v (Value.slice none 0 0), D.v (Value.bool false)]), Slot.live (Row.box 119 [D.sl false false (Ty.int IntKind.i64).sl W, D.sl false false ((Ty.int IntKind.i64).prod (Ty.bool.prod (Ty.int IntKind.i64).sl)) S, D.own 3 0 n (some n), D.own 4 0 ms.length none]), Slot.live (Row.box 71 [D.own 3 0 n (some n), D.own 4 0 ms.length none, D.v (Value.bool true)]), Slot.live (Row.data 80 (Ty.int IntKind.u64) (Mi m)), Slot.live (Row.nest (NK.mk 46 (Ty.int IntKind.i64).sl 0 3 (Ty.int IntKind.i64)) ms none)]))) hmG (fun G R => by kernel_rfl) ?_
      simp only [Ty.dflt, Nat.zero_add, Nat.sub_zero, Nt_Mi, Mi_len, hlm, hC, hl, List.getD_cons_zero, List.length_cons, Int.toNat_natCast, Nat.add_sub_cancel, List.drop_succ_cons, List.drop_zero, List.take_length, List.length_set]
      simp (disch := omega) only [wrG, sameK_iff, true_and, and_true, decide_eq_true_eq, decide_eq_false_iff_not, ne_eq, not_false_eq_true, Bool.false_eq_true, Bool.true_eq_false, false_implies, true_implies, Ty.dflt, reduceCtorEq, beq_iff_eq, bne_iff_ne, beq_eq_false_iff_ne, bne_eq_false_iff_eq, Bool.not_eq_true, Bool.not_eq_eq_eq_not, Bool.not_true, Bool.not_false, gt_iff_lt, ge_iff_le, Int.not_lt, Int.not_le]
      repeat' (first | with_reducible refine And.intro ?_ ?_ | intro _)
      all_goals first | rfl | omega | assumption | trivial | (exfalso; simp_all; done) | (exfalso; omega) | skip
def vq21 (W : List (List Int)) (S : List Slt) (A : List (Int × Int)) (Z : List (Int × Int)) (n : Nat) (N : Nat) (m : List Nat) (ms : List (List Int)) (s : Int) (wt : List Bool) (td : List Int) (G : Nat → St → Prop) (R : D × List (Option Row) × List Row → Prop) : Prop := (decide (s < (↑S.length : Int)) = true → Con Try.prog 98 [Row.box 32 [D.own 1 0 N (some N)], Row.data 4 Ty.bool wt, Row.box 46 [D.own 3 0 td.length none], Row.data 3 (Ty.int IntKind.i64) td] [D.v (Value.int IntKind.i64 s), D.ptr 0 0 0, D.ptr 2 0 0] (D.tup []) [some (Row.box 32 [D.own 1 0 N (some N)]), some (Row.data 4 Ty.bool (putF wt td s).fst), some (Row.box 46 [D.own 4 0 (putF wt td s).snd.length none]), none] [Row.data 3 (Ty.int IntKind.i64) (putF wt td s).snd] ∧ Value.int IntKind.i64 s = Value.int IntKind.i64 s ∧ 5 = 5 ∧ 0 = 0 ∧ 0 = 0 ∧ 4 = 4 ∧ 0 = 0 ∧ 0 = 0 ∧ (putF wt td s).fst.length = wt.length ∧ some (Row.box 32 [D.own 9 0 N (some N)]) = some (Row.box 32 [D.own 9 0 N (some N)]) ∧ some (Row.data 4 Ty.bool wt) = some (Row.data 4 Ty.bool wt) ∧ some (Row.box 46 [D.own 8 0 td.length none]) = some (Row.box 46 [D.own 8 0 td.length none]) ∧ some (Row.data 3 (Ty.int IntKind.i64) td) = some (Row.data 3 (Ty.int IntKind.i64) td) ∧ SameK (KK n59 0) (KK n59 0) ∧ G 0 (stOf 143 [2, 5, 6, 7, 8, 9, 10, 45, 46] [D.ptr 0 0 0, D.ptr 1 0 0, D.own 2 0 A.length none, D.own 3 0 Z.length none, D.ptr 4 0 0, D.ptr 5 0 0, D.fn 98 [D.ptr 5 0 0, D.ptr 4 0 0], D.v (Value.int IntKind.i64 (↑S.length : Int)), D.v (Value.int IntKind.i64 (IntKind.i64.wrap (s + (1 : Int))))] [Slot.live (Row.box 71 [D.v (Value.slice none 0 0), D.v (Value.slice none 0 0), D.v (Value.bool false)]), Slot.live (Row.box 119 [D.sl false false (Ty.int IntKind.i64).sl W, D.sl false false ((Ty.int IntKind.i64).prod (Ty.bool.prod (Ty.int IntKind.i64).sl)) S, D.own 6 0 n (some n), D.own 7 0 ms.length none]), Slot.live (Row.data 104 ((Ty.int IntKind.i64).prod (Ty.int IntKind.i64)) A), Slot.live (Row.data 104 ((Ty.int IntKind.i64).prod (Ty.int IntKind.i64)) Z), Slot.live (Row.box 46 [D.own 8 0 (putF wt td s).snd.length none]), Slot.live (Row.box 32 [D.own 9 0 N (some N)]), Slot.live (Row.data 80 (Ty.int IntKind.u64) (Mi m)), Slot.live (Row.nest (NK.mk 46 (Ty.int IntKind.i64).sl 0 3 (Ty.int IntKind.i64)) ms none), Slot.live (Row.data 3 (Ty.int IntKind.i64) (List.take (putF wt td s).snd.length (List.drop 0 (putF wt td s).snd))), Slot.live (Row.data 4 Ty.bool (putF wt td s).fst)])) ∧ (decide (s < (↑S.length : Int)) = false → SameK (KK n59 1) (KK n59 1) ∧ G 1 (stOf 143 [2, 5, 6, 7, 8, 9, 10] [D.ptr 0 0 0, D.ptr 1 0 0, D.own 2 0 A.length none, D.own 3 0 Z.length none, D.ptr 4 0 0, D.ptr 5 0 0, D.fn 98 [D.ptr 5 0 0, D.ptr 4 0 0]] [Slot.live (Row.box 71 [D.v (Value.slice none 0 0), D.v (Value.slice none 0 0), D.v (Value.bool false)]), Slot.live (Row.box 119 [D.sl false false (Ty.int IntKind.i64).sl W, D.sl false false ((Ty.int IntKind.i64).prod (Ty.bool.prod (Ty.int IntKind.i64).sl)) S, D.own 6 0 n (some n), D.own 7 0 ms.length none]), Slot.live (Row.data 104 ((Ty.int IntKind.i64).prod (Ty.int IntKind.i64)) A), Slot.live (Row.data 104 ((Ty.int IntKind.i64).prod (Ty.int IntKind.i64)) Z), Slot.live (Row.box 46 [D.own 8 0 td.length none]), Slot.live (Row.box 32 [D.own 9 0 N (some N)]), Slot.live (Row.data 80 (Ty.int IntKind.u64) (Mi m)), Slot.live (Row.nest (NK.mk 46 (Ty.int IntKind.i64).sl 0 3 (Ty.int IntKind.i64)) ms none), Slot.live (Row.data 3 (Ty.int IntKind.i64) (List.take td.length (List.drop 0 td))), Slot.live (Row.data 4 Ty.bool wt)]))
theorem e59p (W : List (List Int)) (S : List Slt) (A Z : List (Int × Int)) (n N : Nat) (m : List Nat) (ms : List (List Int)) (hS : S.length ≤ 900) (hN : N = S.length) (mE : List Nat) (sE : List (List Int)) (rE : Bool) (hx : ∀ wt td, Queue wt td N → (∀ j, j < N → wt.getD j false = true) → GetsK Try.prog Try.f59.results.toList [none,none] (KK n59) 0 (.tup [.agg [.own 0 0 n none, .own 1 0 sE.length none, .v (.bool rE)], .v (.int .i64 0)], [], [.data 80 (.int .u64) (Mi mE), .nest kW sE none]) 1 (stOf 143 [2,5,6,7,8,9,10] [.ptr 0 0 0, .ptr 1 0 0, .own 2 0 A.length none, .own 3 0 Z.length none, .ptr 4 0 0, .ptr 5 0 0, .fn 98 [.ptr 5 0 0, .ptr 4 0 0]] [.live (.box 71 [.v (.slice none 0 0), .v (.slice none 0 0), .v (.bool false)]), .live (.box 119 [slW W, slS S, .own 6 0 n (some n), .own 7 0 ms.length none]), .live (.data 104 SeT A), .live (.data 104 SeT Z), .live (.box 46 [.own 8 0 td.length none]), .live (.box 32 [.own 9 0 N (some N)]), .live (.data 80 (.int .u64) (Mi m)), .live (.nest kW ms none), .live (.data 3 (.int .i64) td), .live (.data 4 .bool wt)])) (z : Nat) : ∀ (s : Int) (wt : List Bool) (td : List Int), 0 ≤ s → s + z = S.length → Queue wt td N → (∀ j : Nat, j < s.toNat → wt.getD j false = true) → GetsK Try.prog Try.f59.results.toList [none,none] (KK n59) 0 (.tup [.agg [.own 0 0 n none, .own 1 0 sE.length none, .v (.bool rE)], .v (.int .i64 0)], [], [.data 80 (.int .u64) (Mi mE), .nest kW sE none]) 0 (stOf 143 [2,5,6,7,8,9,10,45,46] [.ptr 0 0 0, .ptr 1 0 0, .own 2 0 A.length none, .own 3 0 Z.length none, .ptr 4 0 0, .ptr 5 0 0, .fn 98 [.ptr 5 0 0, .ptr 4 0 0], .v (.int .i64 S.length), .v (.int .i64 s)] [.live (.box 71 [.v (.slice none 0 0), .v (.slice none 0 0), .v (.bool false)]), .live (.box 119 [slW W, slS S, .own 6 0 n (some n), .own 7 0 ms.length none]), .live (.data 104 SeT A), .live (.data 104 SeT Z), .live (.box 46 [.own 8 0 td.length none]), .live (.box 32 [.own 9 0 N (some N)]), .live (.data 80 (.int .u64) (Mi m)), .live (.nest kW ms none), .live (.data 3 (.int .i64) td), .live (.data 4 .bool wt)]) := by
  induction z with
  | zero =>
    intro s wt td s0 hs q hw
    have h1 := hx wt td q (fun j hj => hw j (by omega))
    refine gets_vc (flag [2000115] spNa) (fun k => [[2,5,6,7,8,9,10,45,46],[2,5,6,7,8,9,10],[2,5,6,7,8,9,10,66,67,68],[2,5,15,99,100,101],[2,5,15,99,100,101,121,122,123]].getD k []) (fun k => if k < 3 then [⟨1000000008, 3, .int .i64⟩] else if k = 99 then [⟨1000000002, 80, .int .u64⟩, ⟨4010002, 46, WT⟩] else []) 400 (.fork (.hd 0) (.hd 1)) (V := vq21 W S A Z n N m ms s wt td) hmG (fun G R => by kernel_rfl) ?_
    unfold vq21
    simp only [List.drop_zero, List.take_length]
    simp (disch := omega) only [wrG, sameK_iff, true_and, and_true, decide_eq_true_eq, decide_eq_false_iff_not, ne_eq, not_false_eq_true, Bool.false_eq_true, Bool.true_eq_false, false_implies, true_implies, Ty.dflt, reduceCtorEq, beq_iff_eq, bne_iff_ne, beq_eq_false_iff_ne, bne_eq_false_iff_eq, Bool.not_eq_true, Bool.not_eq_eq_eq_not, Bool.not_true, Bool.not_false, gt_iff_lt, ge_iff_le, Int.not_lt, Int.not_le]
    repeat' (first | with_reducible refine And.intro ?_ ?_ | intro _)
    all_goals first | rfl | omega | assumption | trivial | (exfalso; simp_all; done) | (exfalso; omega) | skip
  | succ z ih =>
    intro s wt td s0 hs q hw
    have hs1 : IntKind.i64.wrap (s + 1) = s + 1 := wrG (by omega) (by omega)
    obtain ⟨q1, g1, p1⟩ := put_queue q (s := s) (by omega)
    have l0 := q.long
    have c1 := d98 s N td.length wt td q.len rfl (by omega) (by omega)
    have n1 : (putF wt td s).1.length = wt.length := by rw [q1.len, q.len]
    have h1 := ih (s + 1) _ _ (by omega) (by omega) q1 (fun j hj => by
      by_cases e : j < s.toNat
      · exact g1 j (hw j e)
      · have : j = s.toNat := by omega
        rw [this]
        exact p1 s0)
    refine gets_vc (flag [2000115] spNa) (fun k => [[2,5,6,7,8,9,10,45,46],[2,5,6,7,8,9,10],[2,5,6,7,8,9,10,66,67,68],[2,5,15,99,100,101],[2,5,15,99,100,101,121,122,123]].getD k []) (fun k => if k < 3 then [⟨1000000008, 3, .int .i64⟩] else if k = 99 then [⟨1000000002, 80, .int .u64⟩, ⟨4010002, 46, WT⟩] else []) 400 (.fork (.hd 0) (.hd 1)) (V := vq21 W S A Z n N m ms s wt td) hmG (fun G R => by kernel_rfl) ?_
    unfold vq21
    simp only [hs1, List.drop_zero, List.take_length]
    simp (disch := omega) only [wrG, sameK_iff, true_and, and_true, decide_eq_true_eq, decide_eq_false_iff_not, ne_eq, not_false_eq_true, Bool.false_eq_true, Bool.true_eq_false, false_implies, true_implies, Ty.dflt, reduceCtorEq, beq_iff_eq, bne_iff_ne, beq_eq_false_iff_ne, bne_eq_false_iff_eq, Bool.not_eq_true, Bool.not_eq_eq_eq_not, Bool.not_true, Bool.not_false, gt_iff_lt, ge_iff_le, Int.not_lt, Int.not_le]
    repeat' (first | with_reducible refine And.intro ?_ ?_ | intro _)
    all_goals first | rfl | omega | assumption | trivial | (exfalso; simp_all; done) | (exfalso; omega) | skip
theorem d59 (g : Gr) (W : List (List Int)) (M : List Nat) (hM : Smalls M) : Con Try.prog 59 [] [.agg [.v (.int .i64 g.h), .v (.int .i64 g.w), .sl false false .bool g.B, .sl false false .bool g.R, .sl false false .bool g.L, slW W, slU M]] (narVal (narM ⟨g, W, M⟩) (narW ⟨g, W, M⟩) (narO ⟨g, W, M⟩) (checkP ⟨g, W, M⟩)) [] [.data 80 (.int .u64) (Mi (narM ⟨g, W, M⟩)), .nest kW (narW ⟨g, W, M⟩) none] := by
  refine con_vc (how := [none,none]) (c := n59) (K := (KK n59)) (flag [2000115] spNa) (fun k => [[2,5,6,7,8,9,10,45,46],[2,5,6,7,8,9,10],[2,5,6,7,8,9,10,66,67,68],[2,5,15,99,100,101],[2,5,15,99,100,101,121,122,123]].getD k []) (fun k => if k < 3 then [⟨1000000008, 3, .int .i64⟩] else if k = 99 then [⟨1000000002, 80, .int .u64⟩, ⟨4010002, 46, WT⟩] else []) 400 (.fork .stop (.hd 0)) (V := fun G R => Con Try.prog 62 [] [D.agg [D.v (Value.int IntKind.i64 (Pr.mk g W (Nt (Mi M))).g.h), D.v (Value.int IntKind.i64 (Pr.mk g W (Nt (Mi M))).g.w), D.sl false false Ty.bool (Pr.mk g W (Nt (Mi M))).g.B, D.sl false false Ty.bool (Pr.mk g W (Nt (Mi M))).g.R, D.sl false false Ty.bool (Pr.mk g W (Nt (Mi M))).g.L, D.sl false false (Ty.int IntKind.i64).sl (Pr.mk g W (Nt (Mi M))).W, D.sl false false (Ty.int IntKind.u64) (Mi (Pr.mk g W (Nt (Mi M))).M)]] (D.v (Value.int IntKind.i64 (checkP (Pr.mk g W (Nt (Mi M)))))) [] [] ∧ Value.int IntKind.i64 g.h = Value.int IntKind.i64 (Pr.mk g W (Nt (Mi M))).g.h ∧ Value.int IntKind.i64 g.w = Value.int IntKind.i64 (Pr.mk g W (Nt (Mi M))).g.w ∧ g.B = (Pr.mk g W (Nt (Mi M))).g.B ∧ g.R = (Pr.mk g W (Nt (Mi M))).g.R ∧ g.L = (Pr.mk g W (Nt (Mi M))).g.L ∧ W = (Pr.mk g W (Nt (Mi M))).W ∧ Mi M = Mi (Pr.mk g W (Nt (Mi M))).M ∧ ((checkP (Pr.mk g W (Nt (Mi M))) != (0 : Int)) = true → R (D.tup [D.agg [D.own 0 0 0 none, D.own 1 0 0 none, D.v (Value.bool false)], D.v (Value.int IntKind.i64 (checkP (Pr.mk g W (Nt (Mi M)))))], [], [Row.data 80 (Ty.int IntKind.u64) [], Row.nest (NK.mk 46 (Ty.int IntKind.i64).sl 0 3 (Ty.int IntKind.i64)) [] none])) ∧ ((checkP (Pr.mk g W (Nt (Mi M))) != (0 : Int)) = false → Con Try.prog 97 [] [D.agg [D.v (Value.int IntKind.i64 (Pr.mk g W (Nt (Mi M))).g.h), D.v (Value.int IntKind.i64 (Pr.mk g W (Nt (Mi M))).g.w), D.sl false false Ty.bool (Pr.mk g W (Nt (Mi M))).g.B, D.sl false false Ty.bool (Pr.mk g W (Nt (Mi M))).g.R, D.sl false false Ty.bool (Pr.mk g W (Nt (Mi M))).g.L, D.sl false false (Ty.int IntKind.i64).sl (Pr.mk g W (Nt (Mi M))).W, D.sl false false (Ty.int IntKind.u64) (Mi (Pr.mk g W (Nt (Mi M))).M)]] (D.ptr 0 0 0) [] [Row.box 119 [D.sl false false (Ty.int IntKind.i64).sl (Pr.mk g W (Nt (Mi M))).W, D.sl false false ((Ty.int IntKind.i64).prod (Ty.bool.prod (Ty.int IntKind.i64).sl)) (slotsF (Pr.mk g W (Nt (Mi M))).g), D.own 1 0 (Pr.mk g W (Nt (Mi M))).M.length (some (Pr.mk g W (Nt (Mi M))).M.length), D.own 2 0 (mayF (Pr.mk g W (Nt (Mi M))).W (slotsF (Pr.mk g W (Nt (Mi M))).g)).length none], Row.data 80 (Ty.int IntKind.u64) (Mi (m0F (Pr.mk g W (Nt (Mi M))))), Row.nest (NK.mk 46 (Ty.int IntKind.i64).sl 0 3 (Ty.int IntKind.i64)) (mayF (Pr.mk g W (Nt (Mi M))).W (slotsF (Pr.mk g W (Nt (Mi M))).g)) none] ∧ Value.int IntKind.i64 g.h = Value.int IntKind.i64 (Pr.mk g W (Nt (Mi M))).g.h ∧ Value.int IntKind.i64 g.w = Value.int IntKind.i64 (Pr.mk g W (Nt (Mi M))).g.w ∧ g.B = (Pr.mk g W (Nt (Mi M))).g.B ∧ g.R = (Pr.mk g W (Nt (Mi M))).g.R ∧ g.L = (Pr.mk g W (Nt (Mi M))).g.L ∧ W = (Pr.mk g W (Nt (Mi M))).W ∧ Mi M = Mi (Pr.mk g W (Nt (Mi M))).M ∧ Con Try.prog 77 [] [D.agg [D.v (Value.int IntKind.i64 g.h), D.v (Value.int IntKind.i64 g.w), D.sl false false Ty.bool g.B, D.sl false false Ty.bool g.R, D.sl false false Ty.bool g.L]] (D.tup [D.own 0 0 (seatsF g).fst.length none, D.own 1 0 (seatsF g).snd.length none]) [] [Row.data 104 ((Ty.int IntKind.i64).prod (Ty.int IntKind.i64)) (seatsF g).fst, Row.data 104 ((Ty.int IntKind.i64).prod (Ty.int IntKind.i64)) (seatsF g).snd] ∧ Value.int IntKind.i64 g.h = Value.int IntKind.i64 g.h ∧ Value.int IntKind.i64 g.w = Value.int IntKind.i64 g.w ∧ g.B = g.B ∧ g.R = g.R ∧ g.L = g.L ∧ (0 : Int) ≤ (↑(slotsF (Pr.mk g W (Nt (Mi M))).g).length : Int) ∧ (↑(slotsF (Pr.mk g W (Nt (Mi M))).g).length : Int) ≤ (↑(slotsF (Pr.mk g W (Nt (Mi M))).g).length : Int) ∧ (↑(slotsF (Pr.mk g W (Nt (Mi M))).g).length : Int) ≤ (9223372036854775807 : Int) ∧ (↑(slotsF (Pr.mk g W (Nt (Mi M))).g).length : Int).toNat * 1 ≤ 281474976710656 ∧ SameK (KK n59 0) (KK n59 0) ∧ G 0 (stOf 143 [2, 5, 6, 7, 8, 9, 10, 45, 46] [D.ptr 0 0 0, D.ptr 1 0 0, D.own 2 0 (seatsF g).fst.length none, D.own 3 0 (seatsF g).snd.length none, D.ptr 4 0 0, D.ptr 5 0 0, D.fn 98 [D.ptr 5 0 0, D.ptr 4 0 0], D.v (Value.int IntKind.i64 (↑(slotsF (Pr.mk g W (Nt (Mi M))).g).length : Int)), D.v (Value.int IntKind.i64 (0 : Int))] [Slot.live (Row.box 71 [D.v (Value.slice none 0 0), D.v (Value.slice none 0 0), D.v (Value.bool false)]), Slot.live (Row.box 119 [D.sl false false (Ty.int IntKind.i64).sl (Pr.mk g W (Nt (Mi M))).W, D.sl false false ((Ty.int IntKind.i64).prod (Ty.bool.prod (Ty.int IntKind.i64).sl)) (slotsF (Pr.mk g W (Nt (Mi M))).g), D.own 6 0 (Pr.mk g W (Nt (Mi M))).M.length (some (Pr.mk g W (Nt (Mi M))).M.length), D.own 7 0 (mayF (Pr.mk g W (Nt (Mi M))).W (slotsF (Pr.mk g W (Nt (Mi M))).g)).length none]), Slot.live (Row.data 104 ((Ty.int IntKind.i64).prod (Ty.int IntKind.i64)) (seatsF g).fst), Slot.live (Row.data 104 ((Ty.int IntKind.i64).prod (Ty.int IntKind.i64)) (seatsF g).snd), Slot.live (Row.box 46 [D.own 8 0 0 none]), Slot.live (Row.box 32 [D.own 9 0 (↑(slotsF (Pr.mk g W (Nt (Mi M))).g).length : Int).toNat (some (↑(slotsF (Pr.mk g W (Nt (Mi M))).g).length : Int).toNat)]), Slot.live (Row.data 80 (Ty.int IntKind.u64) (Mi (m0F (Pr.mk g W (Nt (Mi M)))))), Slot.live (Row.nest (NK.mk 46 (Ty.int IntKind.i64).sl 0 3 (Ty.int IntKind.i64)) (mayF (Pr.mk g W (Nt (Mi M))).W (slotsF (Pr.mk g W (Nt (Mi M))).g)) none), Slot.live (Row.data 3 (Ty.int IntKind.i64) []), Slot.live (Row.data 4 Ty.bool (List.replicate (↑(slotsF (Pr.mk g W (Nt (Mi M))).g).length : Int).toNat false))]))) hmG Try.func59 (by kernel_rfl) (by kernel_rfl) (fun G R => by kernel_rfl) ?_
  try dsimp only
  have c0 := d62 g W M
  unfold narVal
  simp only [Nt_Mi, Mi_len, Int.toNat_natCast]
  by_cases h : checkP ⟨g, W, M⟩ = 0
  · have F := fine_of h hM
    have hsz := F.size
    obtain ⟨B, hA, hZ⟩ := board_of h hM
    have c1 := d97 g W M F
    have c2 := d77 g
    have hl := narM_len ⟨g, W, M⟩ h
    have e1 : narM ⟨g, W, M⟩ = gfpF W (slotsF g) (m0F ⟨g, W, M⟩) := if_pos h
    have e2 : narW ⟨g, W, M⟩ = wordsF W (slotsF g) (narM ⟨g, W, M⟩) := if_pos h
    have e3 : narO ⟨g, W, M⟩ = okF (slotsF g) (narM ⟨g, W, M⟩) (narW ⟨g, W, M⟩) := if_pos h
    have hml : (m0F ⟨g, W, M⟩).length = M.length := by
      unfold m0F
      rw [seatSlots_len]
      simp
    have hms : Smalls (m0F ⟨g, W, M⟩) := seatSlots_small hM _ (rep_small _)
    have F0 : Fine W (slotsF g) (m0F ⟨g, W, M⟩) := ⟨F.words, F.long, F.slots, fun s hs => by rw [hml]; exact F.cells s hs, by omega, hms⟩
    have hS : (slotsF g).length ≤ 900 := slots_900 (checkP_zero h).1
    have hq : Queue (List.replicate (slotsF g).length false) [] (slotsF g).length := queue_new _
    have hx := e59p W (slotsF g) (seatsF g).1 (seatsF g).2 M.length (slotsF g).length (m0F ⟨g, W, M⟩) (mayF W (slotsF g)) hS rfl (narM ⟨g, W, M⟩) (narW ⟨g, W, M⟩) (narO ⟨g, W, M⟩)
      (fun wt td q hw => e59a W (slotsF g) (seatsF g).1 (seatsF g).2 M.length (m0F ⟨g, W, M⟩) hml F0 hS (by rw [hml]; exact B) hA hZ (slotsF g).length rfl _ _ _ e1 e2 e3 _ _ _ wt td (Nat.lt_succ_self _) (inv_start q hw))
      (slotsF g).length 0 (List.replicate (slotsF g).length false) [] (by omega) (by omega) hq (fun j hj => by simp at hj)
    rw [h] at c0 ⊢
    rw [hl]
    simp only [show ((0 : Int) != 0) = false from rfl]
    simp (disch := omega) only [wrG, sameK_iff, true_and, and_true, decide_eq_true_eq, decide_eq_false_iff_not, ne_eq, not_false_eq_true, Bool.false_eq_true, Bool.true_eq_false, false_implies, true_implies, Ty.dflt, reduceCtorEq, beq_iff_eq, bne_iff_ne, beq_eq_false_iff_ne, bne_eq_false_iff_eq, Bool.not_eq_true, Bool.not_eq_eq_eq_not, Bool.not_true, Bool.not_false, gt_iff_lt, ge_iff_le, Int.not_lt, Int.not_le]
    repeat' (first | with_reducible refine And.intro ?_ ?_ | intro _)
    all_goals first | rfl | omega | assumption | trivial | exact c1 | exact c2 | exact hx | skip
  · have e1 : narM ⟨g, W, M⟩ = [] := if_neg h
    have e2 : narW ⟨g, W, M⟩ = [] := if_neg h
    have e3 : narO ⟨g, W, M⟩ = false := if_neg h
    rw [e1, e2, e3]
    have hb : (checkP ⟨g, W, M⟩ != 0) = true := by rw [bne_iff_ne]; exact h
    simp only [hb]
    simp (disch := omega) only [wrG, sameK_iff, true_and, and_true, decide_eq_true_eq, decide_eq_false_iff_not, ne_eq, not_false_eq_true, Bool.false_eq_true, Bool.true_eq_false, false_implies, true_implies, Ty.dflt, reduceCtorEq, beq_iff_eq, bne_iff_ne, beq_eq_false_iff_ne, bne_eq_false_iff_eq, Bool.not_eq_true, Bool.not_eq_eq_eq_not, Bool.not_true, Bool.not_false, gt_iff_lt, ge_iff_le, Int.not_lt, Int.not_le]
    repeat' (first | with_reducible refine And.intro ?_ ?_ | intro _)
    all_goals first | rfl | omega | assumption | trivial | (exfalso; simp_all; done) | (exfalso; omega) | skip
end Go.Proofs.YtnakmganodkliaaAm
set_option maxRecDepth 100000
namespace Go.Proofs.YtnakmganodkliaaAm
open Go
abbrev slN (C : List Int) : D := .sl false false (.int .u64) C
def spNb : Sp := fun f args rd => match f, args with
  | 61, [.agg [c, w, .v (.bool o)], .agg [c', w', .v (.bool o')]] => match slC rd (.int .u64) [c], slC rd WT [w], slC rd (.int .u64) [c'], slC rd WT [w'] with
    | some C, some W, some C', some W' => some { f := 61, args := [.agg [slN C, slW W, .v (.bool o)], .agg [slN C', slW W', .v (.bool o')]], val := .v (.bool (decide (C = C' ∧ W = W' ∧ o = o'))), lent := refsDs [c, w, c', w'] }
    | _, _, _, _ => none
  | 58, [.agg [.v (.int _ h), .v (.int _ w), b, r, l, ws, ms]] => withP rd h w b r l ws ms fun p ls => some { f := 58, args := [p.d], val := .agg [.v (.int .i64 p.g.h), .v (.int .i64 p.g.w), .own 0 0 p.g.B.length none, .own 1 0 p.g.R.length none, .own 2 0 p.g.L.length none, .own 3 0 p.W.length none, .own 4 0 p.M.length none], allocs := [.data 4 .bool p.g.B, .data 4 .bool p.g.R, .data 4 .bool p.g.L, .data 46 WT p.W, .data 80 (.int .u64) (Mi p.M)], lent := ls }
  | 64, [.agg [.v (.int _ h), .v (.int _ w), b, r, l, ws, ms], .agg [.v (.int _ h'), .v (.int _ w'), b', r', l', ws', ms']] => withP rd h w b r l ws ms fun p ls => withP rd h' w' b' r' l' ws' ms' fun q ls' => some { f := 64, args := [p.d, q.d], val := .v (.bool (decide (p.g = q.g ∧ p.M = q.M ∧ p.W = q.W))), lent := ls ++ ls' }
  | 96, [w] => match slC rd WT [w] with
    | some W => some { f := 96, args := [slW W], val := .agg [.v (.int .i64 2), .v (.int .i64 2), .own 0 0 4 none, .own 1 0 4 none, .own 2 0 4 none, slW W, .own 3 0 4 none], allocs := [.data 4 .bool [false, false, false, false], .data 4 .bool [false, false, false, false], .data 4 .bool [false, false, false, false], .data 80 (.int .u64) [7, 7, 7, 7]], frz := refsDs [w] }
    | none => none
  | 57, [] => some { f := 57, args := [], val := .v (.bool true) }
  | f, args => spNa f args rd
noncomputable def n96 : Code := (Try.f96.body).getD .skip
noncomputable def n57 : Code := (Try.f57.body).getD .skip
noncomputable def n16 : Code := (Try.f16.body).getD .skip
noncomputable def n17 : Code := (Try.f17.body).getD .skip
noncomputable def n18 : Code := (Try.f18.body).getD .skip
def p0 : Pr := ⟨⟨2, 2, [false, false, false, false], [false, false, false, false], [false, false, false, false]⟩, [[0, 1], [1, 0], [0, 2]], [7, 7, 7, 7]⟩
structure Pr.fits (p : Pr) : Prop where
  g : p.g.fits
  W : p.W.length ≤ 5864062014805
  w : ∀ w ∈ p.W, w.length ≤ 17592186044416
  M : p.M.length ≤ 17592186044416
  small : Smalls p.M
theorem roomB {n : Nat} (h : n ≤ 140737488355328) : roomy Try.prog 4 n := by
  unfold roomy
  rw [show Try.prog.bytesOf 4 = 1 by kernel_rfl]
  omega
theorem roomI {n : Nat} (h : n ≤ 17592186044416) : roomy Try.prog 3 n := by
  unfold roomy
  rw [show Try.prog.bytesOf 3 = 8 by kernel_rfl]
  omega
theorem roomU {n : Nat} (h : n ≤ 17592186044416) : roomy Try.prog 80 n := by
  unfold roomy
  rw [bytes80]
  omega
theorem roomW {n : Nat} (h : n ≤ 5864062014805) : roomy Try.prog 46 n := by
  unfold roomy
  rw [bytes46]
  omega
end Go.Proofs.YtnakmganodkliaaAm
set_option maxRecDepth 100000
namespace Go.Proofs.YtnakmganodkliaaAm
open Go
def vq22 (C : List Int) (C2 : List Int) (W : List (List Int)) (W2 : List (List Int)) (o : Bool) (o2 : Bool) (i : Int) (G : Nat → St → Prop) (R : D × List (Option Row) × List Row → Prop) : Prop := (decide (i < (↑W.length : Int)) = true → (0 : Int) ≤ i ∧ i < (↑W.length : Int) ∧ (0 : Int) ≤ i ∧ i < (↑W2.length : Int) ∧ Con Try.prog 41 [] [D.sl false false (Ty.int IntKind.i64) (W.getD i.toNat (Ty.int IntKind.i64).sl.dflt), D.sl false false (Ty.int IntKind.i64) (W2.getD i.toNat (Ty.int IntKind.i64).sl.dflt)] (D.v (Value.bool (decide (W.getD i.toNat (Ty.int IntKind.i64).sl.dflt = W2.getD i.toNat (Ty.int IntKind.i64).sl.dflt)))) [] [] ∧ W.getD i.toNat (Ty.int IntKind.i64).sl.dflt = W.getD i.toNat (Ty.int IntKind.i64).sl.dflt ∧ W2.getD i.toNat (Ty.int IntKind.i64).sl.dflt = W2.getD i.toNat (Ty.int IntKind.i64).sl.dflt ∧ ((!decide (W.getD i.toNat (Ty.int IntKind.i64).sl.dflt = W2.getD i.toNat (Ty.int IntKind.i64).sl.dflt)) = true → R (D.v (Value.bool false), [], [])) ∧ ((!decide (W.getD i.toNat (Ty.int IntKind.i64).sl.dflt = W2.getD i.toNat (Ty.int IntKind.i64).sl.dflt)) = false → SameK (KK n61 0) (KK n61 0) ∧ G 0 (stOf 47 [2, 3, 5] [D.ptr 0 0 0, D.ptr 1 0 0, D.v (Value.int IntKind.i64 (IntKind.i64.wrap (i + (1 : Int))))] [Slot.live (Row.box 71 [D.sl false false (Ty.int IntKind.u64) C, D.sl false false (Ty.int IntKind.i64).sl W, D.v (Value.bool o)]), Slot.live (Row.box 71 [D.sl false false (Ty.int IntKind.u64) C2, D.sl false false (Ty.int IntKind.i64).sl W2, D.v (Value.bool o2)])]))) ∧ (decide (i < (↑W.length : Int)) = false → R (D.v (Value.bool true), [], []))
theorem e61 (C C2 : List Int) (W W2 : List (List Int)) (o o2 : Bool) (hl : W.length = W2.length) (hW : W.length ≤ 5864062014805) (hw : ∀ w ∈ W, w.length ≤ 17592186044416) (z : Nat) : ∀ (i : Int), 0 ≤ i → i + z = W.length → ∀ r, r = decide (W.drop i.toNat = W2.drop i.toNat) → GetsK Try.prog Try.f61.results.toList [none] (KK n61) 0 (.v (.bool r), [], []) 0 (stOf 47 [2,3,5] [.ptr 0 0 0, .ptr 1 0 0, .v (.int .i64 i)] [.live (.box 71 [slN C, slW W, .v (.bool o)]), .live (.box 71 [slN C2, slW W2, .v (.bool o2)])]) := by
  induction z with
  | zero =>
    intro i i0 hi r hr
    rw [List.drop_eq_nil_of_le (by omega), List.drop_eq_nil_of_le (by omega)] at hr
    have hr : r = true := by rw [hr]; rfl
    rw [hr]
    refine gets_vc spNb (fun _ => [2,3,5]) (fun _ => []) 400 (.fork (.fork .stop (.hd 0)) .stop) (V := vq22 C C2 W W2 o o2 i) hmG (fun G R => by kernel_rfl) ?_
    unfold vq22
    simp (disch := omega) only [wrG, sameK_iff, true_and, and_true, decide_eq_true_eq, decide_eq_false_iff_not, ne_eq, not_false_eq_true, Bool.false_eq_true, Bool.true_eq_false, false_implies, true_implies, Ty.dflt, reduceCtorEq, beq_iff_eq, bne_iff_ne, beq_eq_false_iff_ne, bne_eq_false_iff_eq, Bool.not_eq_true, Bool.not_eq_eq_eq_not, Bool.not_true, Bool.not_false, gt_iff_lt, ge_iff_le, Int.not_lt, Int.not_le]
    repeat' (first | with_reducible refine And.intro ?_ ?_ | intro _)
    all_goals first | rfl | omega | assumption | trivial | (exfalso; simp_all; done) | (exfalso; omega) | skip
  | succ z ih =>
    intro i i0 hi r hr
    rw [drop_at (xs := W) (i := i) ([] : List Int) i0 (by omega), drop_at (xs := W2) (i := i) ([] : List Int) i0 (by omega)] at hr
    have hk1 : IntKind.i64.wrap (i + 1) = i + 1 := wrG (by omega) (by omega)
    have hx := ih (i + 1) (by omega) (by omega) _ rfl
    have c1 := d41 (W.getD i.toNat []) (W2.getD i.toNat []) (by have := hw _ (getD_in (d := []) (k := i.toNat) (l := W) (by omega)); omega)
    refine gets_vc spNb (fun _ => [2,3,5]) (fun _ => []) 400 (.fork (.fork .stop (.hd 0)) .stop) (V := vq22 C C2 W W2 o o2 i) hmG (fun G R => by kernel_rfl) ?_
    unfold vq22
    simp only [Ty.dflt, hk1]
    by_cases h : W.getD i.toNat [] = W2.getD i.toNat []
    · have hr : r = decide (W.drop (i + 1).toNat = W2.drop (i + 1).toNat) := by
        rw [hr]
        simp only [List.cons.injEq, h, true_and]
      rw [← hr] at hx
      simp only [h, decide_true] at c1
      simp only [h, decide_true]
      simp (disch := omega) only [wrG, sameK_iff, true_and, and_true, decide_eq_true_eq, decide_eq_false_iff_not, ne_eq, not_false_eq_true, Bool.false_eq_true, Bool.true_eq_false, false_implies, true_implies, Ty.dflt, reduceCtorEq, beq_iff_eq, bne_iff_ne, beq_eq_false_iff_ne, bne_eq_false_iff_eq, Bool.not_eq_true, Bool.not_eq_eq_eq_not, Bool.not_true, Bool.not_false, gt_iff_lt, ge_iff_le, Int.not_lt, Int.not_le]
      repeat' (first | with_reducible refine And.intro ?_ ?_ | intro _)
      all_goals first | rfl | omega | assumption | trivial | (exfalso; simp_all; done) | (exfalso; omega) | skip
    · have hr : r = false := by
        rw [hr]
        refine decide_eq_false (fun e => h ?_)
        rw [List.cons.injEq] at e
        exact e.1
      rw [hr]
      simp only [h, decide_false] at c1
      simp only [h, decide_false]
      simp (disch := omega) only [wrG, sameK_iff, true_and, and_true, decide_eq_true_eq, decide_eq_false_iff_not, ne_eq, not_false_eq_true, Bool.false_eq_true, Bool.true_eq_false, false_implies, true_implies, Ty.dflt, reduceCtorEq, beq_iff_eq, bne_iff_ne, beq_eq_false_iff_ne, bne_eq_false_iff_eq, Bool.not_eq_true, Bool.not_eq_eq_eq_not, Bool.not_true, Bool.not_false, gt_iff_lt, ge_iff_le, Int.not_lt, Int.not_le]
      repeat' (first | with_reducible refine And.intro ?_ ?_ | intro _)
      all_goals first | rfl | omega | assumption | trivial | (exfalso; simp_all; done) | (exfalso; omega) | skip
theorem d61 (C C2 : List Int) (W W2 : List (List Int)) (o o2 : Bool) (hC1 : C.length ≤ 17592186044416) (hW : W.length ≤ 5864062014805) (hw : ∀ w ∈ W, w.length ≤ 17592186044416) : Con Try.prog 61 [] [.agg [slN C, slW W, .v (.bool o)], .agg [slN C2, slW W2, .v (.bool o2)]] (.v (.bool (decide (C = C2 ∧ W = W2 ∧ o = o2)))) [] [] := by
  refine con_vc (how := [none]) (c := n61) (K := (KK n61)) spNb (fun _ => [2,3,5]) (fun _ => []) 400 (.fork (.t (.t .stop)) (.fork (.t .stop) (.fork .stop (.hd 0)))) (V := fun G R => Con Try.prog 102 [] [D.sl false false (Ty.int IntKind.u64) C, D.sl false false (Ty.int IntKind.u64) C2] (D.v (Value.bool (decide (C = C2)))) [] [] ∧ C = C ∧ C2 = C2 ∧ ((!decide (C = C2)) = true → true = true ∧ true = true ∧ R (D.v (Value.bool false), [], [])) ∧ ((!decide (C = C2)) = false → (((↑W.length : Int) != (↑W2.length : Int)) = true → true = true ∧ R (D.v (Value.bool false), [], [])) ∧ (((↑W.length : Int) != (↑W2.length : Int)) = false → ((!o == o2) = true → R (D.v (Value.bool false), [], [])) ∧ ((!o == o2) = false → SameK (KK n61 0) (KK n61 0) ∧ G 0 (stOf 47 [2, 3, 5] [D.ptr 0 0 0, D.ptr 1 0 0, D.v (Value.int IntKind.i64 (0 : Int))] [Slot.live (Row.box 71 [D.sl false false (Ty.int IntKind.u64) C, D.sl false false (Ty.int IntKind.i64).sl W, D.v (Value.bool o)]), Slot.live (Row.box 71 [D.sl false false (Ty.int IntKind.u64) C2, D.sl false false (Ty.int IntKind.i64).sl W2, D.v (Value.bool o2)])]))))) hmG Try.func61 (by kernel_rfl) (by kernel_rfl) (fun G R => by kernel_rfl) ?_
  try dsimp only
  have c1 := d102 C C2 (by omega)
  by_cases hC : C = C2
  · subst hC
    simp only [eq_self, decide_true] at c1
    by_cases hl : W.length = W2.length
    · by_cases ho : o = o2
      · subst ho
        have hx := e61 C C W W2 o o hl hW hw W.length 0 (by omega) (by omega) _ rfl
        have e : decide (C = C ∧ W = W2 ∧ o = o) = decide (W = W2) := by simp only [true_and, and_true]
        rw [e]
        simp only [show (0 : Int).toNat = 0 by rfl, List.drop_zero] at hx
        have hol : (o != o) = false := by cases o <;> rfl
        have hll : ((W.length : Int) != (W2.length : Int)) = false := by rw [hl]; simp
        simp only [eq_self, decide_true, hol, hll, Bool.not_true]
        simp (disch := omega) only [wrG, sameK_iff, true_and, and_true, decide_eq_true_eq, decide_eq_false_iff_not, ne_eq, not_false_eq_true, Bool.false_eq_true, Bool.true_eq_false, false_implies, true_implies, Ty.dflt, reduceCtorEq, beq_iff_eq, bne_iff_ne, beq_eq_false_iff_ne, bne_eq_false_iff_eq, Bool.not_eq_true, Bool.not_eq_eq_eq_not, Bool.not_true, Bool.not_false, gt_iff_lt, ge_iff_le, Int.not_lt, Int.not_le]
        repeat' (first | with_reducible refine And.intro ?_ ?_ | intro _)
        all_goals first | rfl | omega | assumption | trivial | (exfalso; simp_all; done) | (exfalso; omega) | skip
      · have e : decide (C = C ∧ W = W2 ∧ o = o2) = false := decide_eq_false (fun q => ho q.2.2)
        have hol : (o != o2) = true := by rw [bne_iff_ne]; exact ho
        have hll : ((W.length : Int) != (W2.length : Int)) = false := by rw [hl]; simp
        rw [e]
        simp only [eq_self, decide_true, hol, hll, Bool.not_true]
        simp (disch := omega) only [wrG, sameK_iff, true_and, and_true, decide_eq_true_eq, decide_eq_false_iff_not, ne_eq, not_false_eq_true, Bool.false_eq_true, Bool.true_eq_false, false_implies, true_implies, Ty.dflt, reduceCtorEq, beq_iff_eq, bne_iff_ne, beq_eq_false_iff_ne, bne_eq_false_iff_eq, Bool.not_eq_true, Bool.not_eq_eq_eq_not, Bool.not_true, Bool.not_false, gt_iff_lt, ge_iff_le, Int.not_lt, Int.not_le]
        repeat' (first | with_reducible refine And.intro ?_ ?_ | intro _)
        all_goals first | rfl | omega | assumption | trivial | (exfalso; simp_all; done) | (exfalso; omega) | skip
    · have e : decide (C = C ∧ W = W2 ∧ o = o2) = false := decide_eq_false (fun q => hl (by rw [q.2.1]))
      have hll : ((W.length : Int) != (W2.length : Int)) = true := by rw [bne_iff_ne]; omega
      rw [e]
      simp only [eq_self, decide_true, hll, Bool.not_true]
      simp (disch := omega) only [wrG, sameK_iff, true_and, and_true, decide_eq_true_eq, decide_eq_false_iff_not, ne_eq, not_false_eq_true, Bool.false_eq_true, Bool.true_eq_false, false_implies, true_implies, Ty.dflt, reduceCtorEq, beq_iff_eq, bne_iff_ne, beq_eq_false_iff_ne, bne_eq_false_iff_eq, Bool.not_eq_true, Bool.not_eq_eq_eq_not, Bool.not_true, Bool.not_false, gt_iff_lt, ge_iff_le, Int.not_lt, Int.not_le]
      repeat' (first | with_reducible refine And.intro ?_ ?_ | intro _)
      all_goals first | rfl | omega | assumption | trivial | (exfalso; simp_all; done) | (exfalso; omega) | skip
  · have e : decide (C = C2 ∧ W = W2 ∧ o = o2) = false := decide_eq_false (fun q => hC q.1)
    simp only [hC, decide_false] at c1
    rw [e]
    simp only [hC, decide_false, Bool.not_false]
    simp (disch := omega) only [wrG, sameK_iff, true_and, and_true, decide_eq_true_eq, decide_eq_false_iff_not, ne_eq, not_false_eq_true, Bool.false_eq_true, Bool.true_eq_false, false_implies, true_implies, Ty.dflt, reduceCtorEq, beq_iff_eq, bne_iff_ne, beq_eq_false_iff_ne, bne_eq_false_iff_eq, Bool.not_eq_true, Bool.not_eq_eq_eq_not, Bool.not_true, Bool.not_false, gt_iff_lt, ge_iff_le, Int.not_lt, Int.not_le]
    repeat' (first | with_reducible refine And.intro ?_ ?_ | intro _)
    all_goals first | rfl | omega | assumption | trivial | (exfalso; simp_all; done) | (exfalso; omega) | skip
theorem e58 (g : Gr) (W : List (List Int)) (M : List Nat) (hW : W.length ≤ 5864062014805) (hw : ∀ w ∈ W, w.length ≤ 17592186044416) (z : Nat) : ∀ (i : Int) (V : List (List Int)), 0 ≤ i → i + z = W.length → V = W.take i.toNat → GetsK Try.prog Try.f58.results.toList [none] (KK n58) 0 (.agg [.v (.int .i64 g.h), .v (.int .i64 g.w), .own 0 0 g.B.length none, .own 1 0 g.R.length none, .own 2 0 g.L.length none, .own 3 0 W.length none, .own 4 0 M.length none], [], [.data 4 .bool g.B, .data 4 .bool g.R, .data 4 .bool g.L, .data 46 WT W, .data 80 (.int .u64) (Mi M)]) 0 (stOf 52 [1,2,3,4] [.ptr 0 0 0, .ptr 1 0 0, .ptr 2 0 0, .v (.int .i64 i)] [.live (.box 68 [.v (.int .i64 g.h), .v (.int .i64 g.w), .sl false false .bool g.B, .sl false false .bool g.R, .sl false false .bool g.L, slW W, slU M]), .live (.box 68 [.v (.int .i64 0), .v (.int .i64 0), .v (.slice none 0 0), .v (.slice none 0 0), .v (.slice none 0 0), .v (.slice none 0 0), .v (.slice none 0 0)]), .live (.box 68 [.v (.int .i64 g.h), .v (.int .i64 g.w), .own 3 0 g.B.length none, .own 4 0 g.R.length none, .own 5 0 g.L.length none, .own 6 0 V.length none, .own 7 0 M.length none]), .live (.data 4 .bool g.B), .live (.data 4 .bool g.R), .live (.data 4 .bool g.L), .live (.data 46 WT V), .live (.data 80 (.int .u64) (Mi M))]) := by
  induction z with
  | zero =>
    intro i V i0 hi hV
    rw [List.take_of_length_le (by omega)] at hV
    rw [hV]
    refine gets_vc spNb (fun _ => [1,2,3,4]) (fun k => if k = 0 then [⟨50003, 46, WT⟩] else []) 400 (.fork (.hd 0) .stop) (V := fun G R => (decide (i < (↑W.length : Int)) = true → (0 : Int) ≤ i ∧ i < (↑W.length : Int) ∧ roomy Try.prog 3 (0 + List.length (W.getD i.toNat (Ty.int IntKind.i64).sl.dflt)) ∧ roomy Try.prog 46 (W.length + 1) ∧ SameK (KK n58 0) (KK n58 0) ∧ G 0 (stOf 52 [1, 2, 3, 4] [D.ptr 0 0 0, D.ptr 1 0 0, D.ptr 2 0 0, D.v (Value.int IntKind.i64 (IntKind.i64.wrap (i + (1 : Int))))] [Slot.live (Row.box 68 [D.v (Value.int IntKind.i64 g.h), D.v (Value.int IntKind.i64 g.w), D.sl false false Ty.bool g.B, D.sl false false Ty.bool g.R, D.sl false false Ty.bool g.L, D.sl false false (Ty.int IntKind.i64).sl W, D.sl false false (Ty.int IntKind.u64) (Mi M)]), Slot.live (Row.box 68 [D.v (Value.int IntKind.i64 (0 : Int)), D.v (Value.int IntKind.i64 (0 : Int)), D.v (Value.slice none 0 0), D.v (Value.slice none 0 0), D.v (Value.slice none 0 0), D.v (Value.slice none 0 0), D.v (Value.slice none 0 0)]), Slot.live (Row.box 68 [D.v (Value.int IntKind.i64 g.h), D.v (Value.int IntKind.i64 g.w), D.own 3 0 g.B.length none, D.own 4 0 g.R.length none, D.own 5 0 g.L.length none, D.own 6 0 (W.length + 1) none, D.own 7 0 M.length none]), Slot.live (Row.data 4 Ty.bool g.B), Slot.live (Row.data 4 Ty.bool g.R), Slot.live (Row.data 4 Ty.bool g.L), Slot.live (Row.data 46 (Ty.int IntKind.i64).sl (List.take W.length (List.drop 0 W) ++ List.take 1 (List.drop 0 [List.take (0 + List.length (W.getD i.toNat (Ty.int IntKind.i64).sl.dflt)) (List.drop 0 (List.take 0 (List.drop 0 []) ++ W.getD i.toNat (Ty.int IntKind.i64).sl.dflt))]))), Slot.live (Row.data 80 (Ty.int IntKind.u64) (Mi M))])) ∧ (decide (i < (↑W.length : Int)) = false → R (D.agg [D.v (Value.int IntKind.i64 g.h), D.v (Value.int IntKind.i64 g.w), D.own 0 0 g.B.length none, D.own 1 0 g.R.length none, D.own 2 0 g.L.length none, D.own 3 0 W.length none, D.own 4 0 M.length none], [], [Row.data 4 Ty.bool g.B, Row.data 4 Ty.bool g.R, Row.data 4 Ty.bool g.L, Row.data 46 (Ty.int IntKind.i64).sl W, Row.data 80 (Ty.int IntKind.u64) (Mi M)]))) hmG (fun G R => by kernel_rfl) ?_
    simp only [take_len, List.drop_zero, List.take_length, Mi_getD, Mi_len, Nt_Mi, Int.toNat_natCast, Mi_set, Nat.zero_add, Nat.sub_zero, List.length_set, take_one, takeSn, List.take_zero, List.nil_append, List.length_append, List.length_cons, List.length_nil]
    simp (disch := omega) only [wrG, sameK_iff, true_and, and_true, decide_eq_true_eq, decide_eq_false_iff_not, ne_eq, not_false_eq_true, Bool.false_eq_true, Bool.true_eq_false, false_implies, true_implies, Ty.dflt, reduceCtorEq, beq_iff_eq, bne_iff_ne, beq_eq_false_iff_ne, bne_eq_false_iff_eq, Bool.not_eq_true, Bool.not_eq_eq_eq_not, Bool.not_true, Bool.not_false, gt_iff_lt, ge_iff_le, Int.not_lt, Int.not_le]
    repeat' (first | with_reducible refine And.intro ?_ ?_ | intro _)
    all_goals first | rfl | omega | assumption | trivial | exact roomW (by omega) | exact roomI (by omega) | exact roomU (by omega) | exact roomB (by omega) | (exfalso; simp_all; done) | (exfalso; omega) | skip
  | succ z ih =>
    intro i V i0 hi hV
    have hk1 : IntKind.i64.wrap (i + 1) = i + 1 := wrG (by omega) (by omega)
    have ht := take_succ_at ([] : List Int) W i0 (by omega)
    obtain ⟨w, hww⟩ : ∃ w, W.getD i.toNat [] = w := ⟨_, rfl⟩
    have hwl : w.length ≤ 17592186044416 := by rw [← hww]; exact hw _ (getD_in (by omega))
    rw [hww] at ht
    have hVl : V.length = i.toNat := by rw [hV, List.length_take]; omega
    have hx := ih (i + 1) (V ++ [w]) (by omega) (by omega) (by rw [ht, hV])
    rw [List.length_append, List.length_cons, List.length_nil] at hx
    refine gets_vc spNb (fun _ => [1,2,3,4]) (fun k => if k = 0 then [⟨50003, 46, WT⟩] else []) 400 (.fork (.hd 0) .stop) (V := fun G R => (decide (i < (↑W.length : Int)) = true → (0 : Int) ≤ i ∧ i < (↑W.length : Int) ∧ roomy Try.prog 3 (0 + List.length (W.getD i.toNat (Ty.int IntKind.i64).sl.dflt)) ∧ roomy Try.prog 46 (V.length + 1) ∧ SameK (KK n58 0) (KK n58 0) ∧ G 0 (stOf 52 [1, 2, 3, 4] [D.ptr 0 0 0, D.ptr 1 0 0, D.ptr 2 0 0, D.v (Value.int IntKind.i64 (IntKind.i64.wrap (i + (1 : Int))))] [Slot.live (Row.box 68 [D.v (Value.int IntKind.i64 g.h), D.v (Value.int IntKind.i64 g.w), D.sl false false Ty.bool g.B, D.sl false false Ty.bool g.R, D.sl false false Ty.bool g.L, D.sl false false (Ty.int IntKind.i64).sl W, D.sl false false (Ty.int IntKind.u64) (Mi M)]), Slot.live (Row.box 68 [D.v (Value.int IntKind.i64 (0 : Int)), D.v (Value.int IntKind.i64 (0 : Int)), D.v (Value.slice none 0 0), D.v (Value.slice none 0 0), D.v (Value.slice none 0 0), D.v (Value.slice none 0 0), D.v (Value.slice none 0 0)]), Slot.live (Row.box 68 [D.v (Value.int IntKind.i64 g.h), D.v (Value.int IntKind.i64 g.w), D.own 3 0 g.B.length none, D.own 4 0 g.R.length none, D.own 5 0 g.L.length none, D.own 6 0 (V.length + 1) none, D.own 7 0 M.length none]), Slot.live (Row.data 4 Ty.bool g.B), Slot.live (Row.data 4 Ty.bool g.R), Slot.live (Row.data 4 Ty.bool g.L), Slot.live (Row.data 46 (Ty.int IntKind.i64).sl (List.take V.length (List.drop 0 V) ++ List.take 1 (List.drop 0 [List.take (0 + List.length (W.getD i.toNat (Ty.int IntKind.i64).sl.dflt)) (List.drop 0 (List.take 0 (List.drop 0 []) ++ W.getD i.toNat (Ty.int IntKind.i64).sl.dflt))]))), Slot.live (Row.data 80 (Ty.int IntKind.u64) (Mi M))])) ∧ (decide (i < (↑W.length : Int)) = false → R (D.agg [D.v (Value.int IntKind.i64 g.h), D.v (Value.int IntKind.i64 g.w), D.own 0 0 g.B.length none, D.own 1 0 g.R.length none, D.own 2 0 g.L.length none, D.own 3 0 V.length none, D.own 4 0 M.length none], [], [Row.data 4 Ty.bool g.B, Row.data 4 Ty.bool g.R, Row.data 4 Ty.bool g.L, Row.data 46 (Ty.int IntKind.i64).sl V, Row.data 80 (Ty.int IntKind.u64) (Mi M)]))) hmG (fun G R => by kernel_rfl) ?_
    simp only [Ty.dflt, hk1, hww, take_len, List.drop_zero, List.take_length, Mi_getD, Mi_len, Nt_Mi, Int.toNat_natCast, Mi_set, Nat.zero_add, Nat.sub_zero, List.length_set, take_one, takeSn, List.take_zero, List.nil_append, List.length_append, List.length_cons, List.length_nil]
    simp (disch := omega) only [wrG, sameK_iff, true_and, and_true, decide_eq_true_eq, decide_eq_false_iff_not, ne_eq, not_false_eq_true, Bool.false_eq_true, Bool.true_eq_false, false_implies, true_implies, Ty.dflt, reduceCtorEq, beq_iff_eq, bne_iff_ne, beq_eq_false_iff_ne, bne_eq_false_iff_eq, Bool.not_eq_true, Bool.not_eq_eq_eq_not, Bool.not_true, Bool.not_false, gt_iff_lt, ge_iff_le, Int.not_lt, Int.not_le]
    repeat' (first | with_reducible refine And.intro ?_ ?_ | intro _)
    all_goals first | rfl | omega | assumption | trivial | exact roomW (by omega) | exact roomI (by omega) | exact roomU (by omega) | exact roomB (by omega) | (exfalso; simp_all; done) | (exfalso; omega) | skip
theorem d58 (g : Gr) (W : List (List Int)) (M : List Nat) (hg : g.fits) (hW : W.length ≤ 5864062014805) (hw : ∀ w ∈ W, w.length ≤ 17592186044416) (hM : M.length ≤ 17592186044416) : Con Try.prog 58 [] [.agg [.v (.int .i64 g.h), .v (.int .i64 g.w), .sl false false .bool g.B, .sl false false .bool g.R, .sl false false .bool g.L, slW W, slU M]] (.agg [.v (.int .i64 g.h), .v (.int .i64 g.w), .own 0 0 g.B.length none, .own 1 0 g.R.length none, .own 2 0 g.L.length none, .own 3 0 W.length none, .own 4 0 M.length none]) [] [.data 4 .bool g.B, .data 4 .bool g.R, .data 4 .bool g.L, .data 46 WT W, .data 80 (.int .u64) (Mi M)] := by
  refine con_vc (how := [none]) (c := n58) (K := (KK n58)) spNb (fun _ => [1,2,3,4]) (fun k => if k = 0 then [⟨50003, 46, WT⟩] else []) 400 (.hd 0) (V := fun G R => roomy Try.prog 4 (0 + g.B.length) ∧ roomy Try.prog 4 (0 + g.R.length) ∧ roomy Try.prog 4 (0 + g.L.length) ∧ roomy Try.prog 80 (0 + (Mi M).length) ∧ SameK (KK n58 0) (KK n58 0) ∧ G 0 (stOf 52 [1, 2, 3, 4] [D.ptr 0 0 0, D.ptr 1 0 0, D.ptr 2 0 0, D.v (Value.int IntKind.i64 (0 : Int))] [Slot.live (Row.box 68 [D.v (Value.int IntKind.i64 g.h), D.v (Value.int IntKind.i64 g.w), D.sl false false Ty.bool g.B, D.sl false false Ty.bool g.R, D.sl false false Ty.bool g.L, D.sl false false (Ty.int IntKind.i64).sl W, D.sl false false (Ty.int IntKind.u64) (Mi M)]), Slot.live (Row.box 68 [D.v (Value.int IntKind.i64 (0 : Int)), D.v (Value.int IntKind.i64 (0 : Int)), D.v (Value.slice none 0 0), D.v (Value.slice none 0 0), D.v (Value.slice none 0 0), D.v (Value.slice none 0 0), D.v (Value.slice none 0 0)]), Slot.live (Row.box 68 [D.v (Value.int IntKind.i64 g.h), D.v (Value.int IntKind.i64 g.w), D.own 3 0 (0 + g.B.length) none, D.own 4 0 (0 + g.R.length) none, D.own 5 0 (0 + g.L.length) none, D.own 6 0 0 none, D.own 7 0 (0 + (Mi M).length) none]), Slot.live (Row.data 4 Ty.bool (List.take 0 (List.drop 0 []) ++ g.B)), Slot.live (Row.data 4 Ty.bool (List.take 0 (List.drop 0 []) ++ g.R)), Slot.live (Row.data 4 Ty.bool (List.take 0 (List.drop 0 []) ++ g.L)), Slot.live (Row.data 46 (Ty.int IntKind.i64).sl []), Slot.live (Row.data 80 (Ty.int IntKind.u64) (List.take 0 (List.drop 0 []) ++ Mi M))])) hmG Try.func58 (by kernel_rfl) (by kernel_rfl) (fun G R => by kernel_rfl) ?_
  try dsimp only
  obtain ⟨f1, f2, f3⟩ := hg
  have hx := e58 g W M hW hw W.length 0 [] (by omega) (by omega) rfl
  simp only [take_len, List.drop_zero, List.take_length, Mi_getD, Mi_len, Nt_Mi, Int.toNat_natCast, Mi_set, Nat.zero_add, Nat.sub_zero, List.length_set, take_one, takeSn, List.take_zero, List.nil_append, List.length_append, List.length_cons, List.length_nil]
  simp (disch := omega) only [wrG, sameK_iff, true_and, and_true, decide_eq_true_eq, decide_eq_false_iff_not, ne_eq, not_false_eq_true, Bool.false_eq_true, Bool.true_eq_false, false_implies, true_implies, Ty.dflt, reduceCtorEq, beq_iff_eq, bne_iff_ne, beq_eq_false_iff_ne, bne_eq_false_iff_eq, Bool.not_eq_true, Bool.not_eq_eq_eq_not, Bool.not_true, Bool.not_false, gt_iff_lt, ge_iff_le, Int.not_lt, Int.not_le]
  repeat' (first | with_reducible refine And.intro ?_ ?_ | intro _)
  all_goals first | rfl | omega | assumption | trivial | exact roomW (by omega) | exact roomI (by omega) | exact roomU (by omega) | exact roomB (by omega) | (exfalso; simp_all; done) | (exfalso; omega) | skip
theorem d96 (W : List (List Int))  : Con Try.prog 96 [] [slW W] (.agg [.v (.int .i64 2), .v (.int .i64 2), .own 0 0 4 none, .own 1 0 4 none, .own 2 0 4 none, slW W, .own 3 0 4 none]) [] [.data 4 .bool [false, false, false, false], .data 4 .bool [false, false, false, false], .data 4 .bool [false, false, false, false], .data 80 (.int .u64) [7, 7, 7, 7]] := by
  refine con_vc (how := [none]) (c := n96) (K := (KK n96)) spNb (fun _ => []) (fun k => [⟨20002, 4, .bool⟩, ⟨30002, 4, .bool⟩, ⟨40002, 4, .bool⟩, ⟨60002, 80, .int .u64⟩]) 400 .stop (V := fun G R => (0 : Int) ≤ (4 : Int) ∧ (4 : Int) ≤ (4 : Int) ∧ (4 : Int) ≤ (9223372036854775807 : Int) ∧ 4 ≤ 281474976710656 ∧ (0 : Int) ≤ (4 : Int) ∧ (4 : Int) ≤ (4 : Int) ∧ (4 : Int) ≤ (9223372036854775807 : Int) ∧ 4 ≤ 281474976710656 ∧ (0 : Int) ≤ (4 : Int) ∧ (4 : Int) ≤ (4 : Int) ∧ (4 : Int) ≤ (9223372036854775807 : Int) ∧ 4 ≤ 281474976710656 ∧ R (D.agg [D.v (Value.int IntKind.i64 (2 : Int)), D.v (Value.int IntKind.i64 (2 : Int)), D.own 0 0 4 none, D.own 1 0 4 none, D.own 2 0 4 none, D.sl false false (Ty.int IntKind.i64).sl W, D.own 3 0 4 none], [], [Row.data 4 Ty.bool (List.replicate 4 false), Row.data 4 Ty.bool (List.replicate 4 false), Row.data 4 Ty.bool (List.replicate 4 false), Row.data 80 (Ty.int IntKind.u64) [(7 : Int), (7 : Int), (7 : Int), (7 : Int)]])) hmG Try.func96 (by kernel_rfl) (by kernel_rfl) (fun G R => by kernel_rfl) ?_
  try dsimp only
  repeat' (first | with_reducible refine And.intro ?_ ?_ | intro _)
  all_goals first | rfl | omega | decide | trivial | skip
end Go.Proofs.YtnakmganodkliaaAm
namespace Go.Proofs.YtnakmganodkliaaAm
open Go
theorem relD_sl {X : Ctx} {ρ : Nat → Option Loc} {H : Heap} {t : Ty} {xs : List t.El} {A : Option Addr} {c : Nat} {us : List Value} {S : Nat → Prop} {w : World} (k1 : xs.length ≤ c) (k2 : A = none → c = 0) (k4 : Reps (RelE S w t) xs us) (k5 : At S w A us) : RelD ⟨ρ, H, S, w⟩ (.sl false false t xs) (.slice A xs.length c) := by
  simp only [RelD]
  exact ⟨A, c, us, rfl, k1, k2, by simp, by simp, k4, k5⟩
theorem con_frz2 {P : Program} {f : FuncId} {args : List D} {a b : Nat} {c1 c2 : Option Nat} {t1 t2 : Ty} {xs : List t1.El} {ys : List t2.El} {o e : Value} {r1 r2 : Row}
    (hr1 : rowData (hget (List.map slotOf [] ++ List.map Slot.live [r1, r2])) 0 0 a t1 = some xs) (hr2 : rowData (hget (List.map slotOf [] ++ List.map Slot.live [r1, r2])) 1 0 b t2 = some ys)
    (h : Con P f [] args (.tup [.agg [.own 0 0 a c1, .own 1 0 b c2, .v o], .v e]) [] [r1, r2]) : Con P f [] args (.tup [.agg [.sl false false t1 xs, .sl false false t2 ys, .v o], .v e]) [] [] := by
  refine ⟨h.fn, fun w ρ S vs M hargs => (h.run w ρ S vs M hargs).mono ?_⟩
  rintro ex w' ⟨v, ρ', S', h1, h2, h3⟩
  have g0 : hget (List.map slotOf [] ++ List.map Slot.live [r1, r2]) 0 = some r1 := rfl
  have g1 : hget (List.map slotOf [] ++ List.map Slot.live [r1, r2]) 1 = some r2 := rfl
  let S2 : Nat → Prop := fun k => (S' k ∨ ∃ l, ρ' 0 = some l ∧ k ∈ l.bs) ∨ ∃ l, ρ' 1 = some l ∧ k ∈ l.bs
  rw [RelD] at h3
  obtain ⟨us, ev, h3⟩ := h3
  rw [RelDs] at h3
  obtain ⟨u, us1, e1, h4, h3⟩ := h3
  rw [RelDs] at h3
  obtain ⟨u2, us2, e2, h5, h3⟩ := h3
  rw [RelDs] at h3
  rw [RelD] at h4
  obtain ⟨ws, ew, h4⟩ := h4
  rw [RelDs] at h4
  obtain ⟨w1, ws1, q1, p1, h4⟩ := h4
  rw [RelDs] at h4
  obtain ⟨w2, ws2, q2, p2, h4⟩ := h4
  rw [RelDs] at h4
  obtain ⟨w3, ws3, q3, p3, h4⟩ := h4
  rw [RelDs] at h4
  obtain ⟨_, A, c, vs1, e3, k1, k2, k3, k4, k5⟩ := own_seq (S' := S2) h2 (fun _ h => .inl (.inl h)) (fun _ _ h => h) hr1 (fun l hl' k hk => .inl (.inr ⟨l, hl', hk⟩)) p1
  obtain ⟨_, A', c', vs2, e4, m1, m2, m3, m4, m5⟩ := own_seq (S' := S2) h2 (fun _ h => .inl (.inl h)) (fun _ _ h => h) hr2 (fun l hl' k hk => .inr ⟨l, hl', hk⟩) p2
  obtain ⟨M2, L2⟩ := mem_kill h2 g0 (fun k => S' k ∨ ∃ l, ρ' 0 = some l ∧ k ∈ l.bs) (fun k hk => .inl hk) (fun k hk => hk)
  have g1' : hget (Ctx.put ⟨ρ', List.map slotOf [] ++ List.map Slot.live [r1, r2], S', w'⟩ 0 .dead (ρ' 0) (fun k => S' k ∨ ∃ l, ρ' 0 = some l ∧ k ∈ l.bs) w').H 1 = some r2 := rfl
  obtain ⟨M3, _⟩ := mem_kill M2 g1' S2 (fun k hk => .inl hk) (fun k hk => by
    rcases hk with hk | ⟨l, hl, hk⟩
    · exact .inl hk
    · exact .inr ⟨l, by simpa [Ctx.put] using hl, hk⟩)
  have hp := mem_pack M3 (n := 0) rfl (ids := []) (ds := []) rfl
  refine ⟨v, _, _, h1, hp, ?_⟩
  rw [RelD]
  refine ⟨us, ev, ?_⟩
  rw [RelDs]
  refine ⟨u, us1, e1, ?_, ?_⟩
  · rw [RelD]
    refine ⟨ws, ew, ?_⟩
    rw [RelDs]
    refine ⟨w1, ws1, q1, ?_, ?_⟩
    · rw [e3]
      exact relD_sl (X := ⟨ρ', [], S', w'⟩) k1 k2 k3 k4
    · rw [RelDs]
      refine ⟨w2, ws2, q2, ?_, ?_⟩
      · rw [e4]
        exact relD_sl (X := ⟨ρ', [], S', w'⟩) m1 m2 m3 m4
      · rw [RelDs]
        refine ⟨w3, ws3, q3, ?_, by rw [RelDs]; exact h4⟩
        rw [RelD] at p3 ⊢
        exact p3
  · rw [RelDs]
    refine ⟨u2, us2, e2, ?_, by rw [RelDs]; exact h3⟩
    rw [RelD] at h5 ⊢
    exact h5
end Go.Proofs.YtnakmganodkliaaAm
set_option maxRecDepth 100000
namespace Go.Proofs.YtnakmganodkliaaAm
open Go
theorem d59s (g : Gr) (W : List (List Int)) (M : List Nat) (hM : Smalls M) : Con Try.prog 59 [] [(Pr.mk g W M).d] (.tup [.agg [slU (narM ⟨g, W, M⟩), slW (narW ⟨g, W, M⟩), .v (.bool (narO ⟨g, W, M⟩))], .v (.int .i64 (checkP ⟨g, W, M⟩))]) [] [] := by
  refine con_frz2 (a := (narM ⟨g, W, M⟩).length) (b := (narW ⟨g, W, M⟩).length) ?_ ?_ (d59 g W M hM)
  · unfold rowData
    simp only [List.map, List.nil_append, show hget [Slot.live (Row.data 80 (.int .u64) (Mi (narM ⟨g, W, M⟩))), Slot.live (Row.nest kW (narW ⟨g, W, M⟩) none)] 0 = some (Row.data 80 (.int .u64) (Mi (narM ⟨g, W, M⟩))) from rfl, dif_pos, List.drop_zero, Mi_take]
  · unfold rowData
    simp only [List.map, List.nil_append, show hget [Slot.live (Row.data 80 (.int .u64) (Mi (narM ⟨g, W, M⟩))), Slot.live (Row.nest kW (narW ⟨g, W, M⟩) none)] 1 = some (Row.nest kW (narW ⟨g, W, M⟩) none) from rfl, dif_pos, List.drop_zero, List.take_length]
def spNc : Sp := fun f args rd => match f, args with
  | 59, [.agg [.v (.int _ h), .v (.int _ w), b, r, l, ws, ms]] => withP rd h w b r l ws ms fun p ls => some { f := 59, args := [p.d], val := .tup [.agg [slU (narM p), slW (narW p), .v (.bool (narO p))], .v (.int .i64 (checkP p))], frz := ls }
  | 60, [.agg [.v (.int _ h), .v (.int _ w), b, r, l, ws, ms]] => withP rd h w b r l ws ms fun p ls => some { f := 60, args := [p.d], val := .tup [.agg [slU (narM p), slW (narW p), .v (.bool (narO p))], .v (.int .i64 (checkP p))], frz := ls }
  | f, args => spNb f args rd
theorem seatC_get (M : List Nat) : ∀ (cs : List Int) (m : List Nat) (j : Nat), j < m.length → (seatCells M cs m).getD j 0 = if cs.any (fun c => c.toNat == j) then M.getD j 0 else m.getD j 0
  | [], m, j, _ => by simp [seatCells]
  | c :: cs, m, j, hj => by
    simp only [seatCells, List.any_cons]
    rw [seatC_get M cs _ j (by simpa using hj)]
    by_cases h : c.toNat = j
    · have hs : (m.set c.toNat (M.getD c.toNat 0)).getD j 0 = M.getD j 0 := by rw [getD_set_nat, if_pos ⟨h, by omega⟩, h]
      simp only [hs, beq_iff_eq.2 h, Bool.true_or, if_true, ite_self]
    · have hs : (m.set c.toNat (M.getD c.toNat 0)).getD j 0 = m.getD j 0 := by rw [getD_set_nat, if_neg (fun e => h e.1)]
      simp only [hs, beq_eq_false_iff_ne.2 h, Bool.false_or]
theorem seatS_get (M : List Nat) : ∀ (ss : List Slt) (m : List Nat) (j : Nat), j < m.length → (seatSlots M ss m).getD j 0 = if ss.any (fun s => s.2.2.any (fun c => c.toNat == j)) then M.getD j 0 else m.getD j 0
  | [], m, j, _ => by simp [seatSlots]
  | s :: ss, m, j, hj => by
    simp only [seatSlots, List.any_cons]
    rw [seatS_get M ss _ j (by rw [seatCells_len]; exact hj), seatC_get M _ m j hj]
    rcases Bool.eq_false_or_eq_true (s.2.2.any (fun c => c.toNat == j)) with h1 | h1 <;> rcases Bool.eq_false_or_eq_true (ss.any (fun s => s.2.2.any (fun c => c.toNat == j))) with h2 | h2 <;> simp only [h1, h2, Bool.or_true, Bool.true_or, Bool.or_false, Bool.false_eq_true, if_true, if_false]
def seatedB (S : List Slt) (j : Nat) : Bool := S.any fun s => s.2.2.any fun c => c.toNat == j
theorem m0_get {p : Pr} {j : Nat} (hj : j < p.M.length) : (m0F p).getD j 0 = if seatedB (slotsF p.g) j then p.M.getD j 0 else 0 := by
  unfold m0F seatedB
  rw [seatS_get _ _ _ _ (by simpa using hj)]
  have e : (List.replicate p.M.length 0).getD j 0 = 0 := by
    rw [List.getD_eq_getElem?_getD, List.getElem?_replicate]
    split <;> rfl
  rw [e]
theorem m0_len (p : Pr) : (m0F p).length = p.M.length := by
  unfold m0F
  rw [seatSlots_len]
  simp
theorem low_zero {p : Pr} {m : List Nat} (h : Leq m (m0F p)) {j : Nat} (hj : j < p.M.length) (hs : seatedB (slotsF p.g) j = false) : m.getD j 0 = 0 := by
  have h1 : m.getD j 0 ≤ (m0F p).getD j 0 := sub_le fun i hi => h j i hi
  rw [m0_get hj, hs] at h1
  simpa using h1
theorem again_m0 {p : Pr} {m : List Nat} (hl : m.length = p.M.length) (h : Leq m (m0F p)) : m0F ⟨p.g, p.W, m⟩ = m := by
  refine list_ext_getD 0 (m0_len _) fun j hj => ?_
  rw [m0_len] at hj
  simp only at hj
  rw [m0_get (p := ⟨p.g, p.W, m⟩) hj]
  simp only
  cases hs : seatedB (slotsF p.g) j with
  | true => rfl
  | false => exact (low_zero h (by omega) hs).symm
theorem again_check {p : Pr} {m : List Nat} (hl : m.length = p.M.length) : checkP ⟨p.g, p.W, m⟩ = checkP p := by
  unfold checkP
  simp only [hl]
theorem nar_again {p : Pr} (h : checkP p = 0) : checkP ⟨p.g, p.W, narM p⟩ = 0 ∧ narM ⟨p.g, p.W, narM p⟩ = narM p ∧ narW ⟨p.g, p.W, narM p⟩ = narW p ∧ narO ⟨p.g, p.W, narM p⟩ = narO p := by
  have hl := narM_len p h
  have hc : checkP ⟨p.g, p.W, narM p⟩ = 0 := by rw [again_check hl]; exact h
  have e1 : narM p = gfpF p.W (slotsF p.g) (m0F p) := if_pos h
  have hle : Leq (narM p) (m0F p) := by rw [e1]; exact gfp_leq _ _ _
  have hst : Stable p.W (slotsF p.g) (narM p) := by rw [e1]; exact gfp_stable _ _ _
  have e2 : narM ⟨p.g, p.W, narM p⟩ = narM p := by
    show (if checkP ⟨p.g, p.W, narM p⟩ = 0 then _ else _) = _
    rw [if_pos hc]
    simp only
    rw [again_m0 hl hle]
    exact gfp_same ((stable_iff _ _ _).2 hst)
  have e3 : narW ⟨p.g, p.W, narM p⟩ = narW p := by
    show (if checkP ⟨p.g, p.W, narM p⟩ = 0 then _ else _) = (if _ then _ else _)
    rw [if_pos hc, if_pos h, e2]
  refine ⟨hc, e2, e3, ?_⟩
  show (if checkP ⟨p.g, p.W, narM p⟩ = 0 then _ else _) = (if _ then _ else _)
  rw [if_pos hc, if_pos h, e2, e3]
end Go.Proofs.YtnakmganodkliaaAm
set_option maxRecDepth 100000
namespace Go.Proofs.YtnakmganodkliaaAm
open Go
theorem nar0 : checkP p0 = 0 ∧ narM p0 = [3, 3, 3, 7] ∧ narW p0 = [[0, 1], [0, 1], [0, 1, 2], [0, 1, 2]] ∧ narO p0 = true := by
  refine ⟨?_, ?_, ?_, ?_⟩ <;> kernel_rfl
theorem d57   : Con Try.prog 57 [] [] (.v (.bool true)) [] [] := by
  refine con_vc (how := [none]) (c := n57) (K := (KK n57)) (flag [2000007] spNc) (fun _ => []) (fun _ => []) 400 (.fork (.fork (.fork (.fork (.fork (.fork .stop .stop) (.f .stop)) (.f (.f .stop))) (.f (.f (.f .stop)))) (.f (.f (.f (.f .stop))))) (.f (.f (.f (.f (.f .stop)))))) (V := fun G R => Con Try.prog 96 [] [D.sl false false (Ty.int IntKind.i64).sl (List.take 3 (List.drop 0 [List.take 2 (List.drop 0 [(0 : Int), (1 : Int)]), List.take 2 (List.drop 0 [(1 : Int), (0 : Int)]), List.take 2 (List.drop 0 [(0 : Int), (2 : Int)])]))] (D.agg [D.v (Value.int IntKind.i64 (2 : Int)), D.v (Value.int IntKind.i64 (2 : Int)), D.own 0 0 4 none, D.own 1 0 4 none, D.own 2 0 4 none, D.sl false false (Ty.int IntKind.i64).sl (List.take 3 (List.drop 0 [List.take 2 (List.drop 0 [(0 : Int), (1 : Int)]), List.take 2 (List.drop 0 [(1 : Int), (0 : Int)]), List.take 2 (List.drop 0 [(0 : Int), (2 : Int)])])), D.own 3 0 4 none]) [] [Row.data 4 Ty.bool [false, false, false, false], Row.data 4 Ty.bool [false, false, false, false], Row.data 4 Ty.bool [false, false, false, false], Row.data 80 (Ty.int IntKind.u64) [(7 : (Ty.int IntKind.u64).El), (7 : (Ty.int IntKind.u64).El), (7 : (Ty.int IntKind.u64).El), (7 : (Ty.int IntKind.u64).El)]] ∧ List.take 3 (List.drop 0 [List.take 2 (List.drop 0 [(0 : Int), (1 : Int)]), List.take 2 (List.drop 0 [(1 : Int), (0 : Int)]), List.take 2 (List.drop 0 [(0 : Int), (2 : Int)])]) = List.take 3 (List.drop 0 [List.take 2 (List.drop 0 [(0 : Int), (1 : Int)]), List.take 2 (List.drop 0 [(1 : Int), (0 : Int)]), List.take 2 (List.drop 0 [(0 : Int), (2 : Int)])]) ∧ Con Try.prog 59 [] [D.agg [D.v (Value.int IntKind.i64 (Pr.mk (Gr.mk (2 : Int) (2 : Int) [false, false, false, false] [false, false, false, false] [false, false, false, false]) (List.take 3 (List.drop 0 [List.take 2 (List.drop 0 [(0 : Int), (1 : Int)]), List.take 2 (List.drop 0 [(1 : Int), (0 : Int)]), List.take 2 (List.drop 0 [(0 : Int), (2 : Int)])])) (Nt (List.take 4 (List.drop 0 [(7 : (Ty.int IntKind.u64).El), (7 : (Ty.int IntKind.u64).El), (7 : (Ty.int IntKind.u64).El), (7 : (Ty.int IntKind.u64).El)])))).g.h), D.v (Value.int IntKind.i64 (Pr.mk (Gr.mk (2 : Int) (2 : Int) [false, false, false, false] [false, false, false, false] [false, false, false, false]) (List.take 3 (List.drop 0 [List.take 2 (List.drop 0 [(0 : Int), (1 : Int)]), List.take 2 (List.drop 0 [(1 : Int), (0 : Int)]), List.take 2 (List.drop 0 [(0 : Int), (2 : Int)])])) (Nt (List.take 4 (List.drop 0 [(7 : (Ty.int IntKind.u64).El), (7 : (Ty.int IntKind.u64).El), (7 : (Ty.int IntKind.u64).El), (7 : (Ty.int IntKind.u64).El)])))).g.w), D.sl false false Ty.bool (Pr.mk (Gr.mk (2 : Int) (2 : Int) [false, false, false, false] [false, false, false, false] [false, false, false, false]) (List.take 3 (List.drop 0 [List.take 2 (List.drop 0 [(0 : Int), (1 : Int)]), List.take 2 (List.drop 0 [(1 : Int), (0 : Int)]), List.take 2 (List.drop 0 [(0 : Int), (2 : Int)])])) (Nt (List.take 4 (List.drop 0 [(7 : (Ty.int IntKind.u64).El), (7 : (Ty.int IntKind.u64).El), (7 : (Ty.int IntKind.u64).El), (7 : (Ty.int IntKind.u64).El)])))).g.B, D.sl false false Ty.bool (Pr.mk (Gr.mk (2 : Int) (2 : Int) [false, false, false, false] [false, false, false, false] [false, false, false, false]) (List.take 3 (List.drop 0 [List.take 2 (List.drop 0 [(0 : Int), (1 : Int)]), List.take 2 (List.drop 0 [(1 : Int), (0 : Int)]), List.take 2 (List.drop 0 [(0 : Int), (2 : Int)])])) (Nt (List.take 4 (List.drop 0 [(7 : (Ty.int IntKind.u64).El), (7 : (Ty.int IntKind.u64).El), (7 : (Ty.int IntKind.u64).El), (7 : (Ty.int IntKind.u64).El)])))).g.R, D.sl false false Ty.bool (Pr.mk (Gr.mk (2 : Int) (2 : Int) [false, false, false, false] [false, false, false, false] [false, false, false, false]) (List.take 3 (List.drop 0 [List.take 2 (List.drop 0 [(0 : Int), (1 : Int)]), List.take 2 (List.drop 0 [(1 : Int), (0 : Int)]), List.take 2 (List.drop 0 [(0 : Int), (2 : Int)])])) (Nt (List.take 4 (List.drop 0 [(7 : (Ty.int IntKind.u64).El), (7 : (Ty.int IntKind.u64).El), (7 : (Ty.int IntKind.u64).El), (7 : (Ty.int IntKind.u64).El)])))).g.L, D.sl false false (Ty.int IntKind.i64).sl (Pr.mk (Gr.mk (2 : Int) (2 : Int) [false, false, false, false] [false, false, false, false] [false, false, false, false]) (List.take 3 (List.drop 0 [List.take 2 (List.drop 0 [(0 : Int), (1 : Int)]), List.take 2 (List.drop 0 [(1 : Int), (0 : Int)]), List.take 2 (List.drop 0 [(0 : Int), (2 : Int)])])) (Nt (List.take 4 (List.drop 0 [(7 : (Ty.int IntKind.u64).El), (7 : (Ty.int IntKind.u64).El), (7 : (Ty.int IntKind.u64).El), (7 : (Ty.int IntKind.u64).El)])))).W, D.sl false false (Ty.int IntKind.u64) (Mi (Pr.mk (Gr.mk (2 : Int) (2 : Int) [false, false, false, false] [false, false, false, false] [false, false, false, false]) (List.take 3 (List.drop 0 [List.take 2 (List.drop 0 [(0 : Int), (1 : Int)]), List.take 2 (List.drop 0 [(1 : Int), (0 : Int)]), List.take 2 (List.drop 0 [(0 : Int), (2 : Int)])])) (Nt (List.take 4 (List.drop 0 [(7 : (Ty.int IntKind.u64).El), (7 : (Ty.int IntKind.u64).El), (7 : (Ty.int IntKind.u64).El), (7 : (Ty.int IntKind.u64).El)])))).M)]] (D.tup [D.agg [D.sl false false (Ty.int IntKind.u64) (Mi (narM (Pr.mk (Gr.mk (2 : Int) (2 : Int) [false, false, false, false] [false, false, false, false] [false, false, false, false]) (List.take 3 (List.drop 0 [List.take 2 (List.drop 0 [(0 : Int), (1 : Int)]), List.take 2 (List.drop 0 [(1 : Int), (0 : Int)]), List.take 2 (List.drop 0 [(0 : Int), (2 : Int)])])) (Nt (List.take 4 (List.drop 0 [(7 : (Ty.int IntKind.u64).El), (7 : (Ty.int IntKind.u64).El), (7 : (Ty.int IntKind.u64).El), (7 : (Ty.int IntKind.u64).El)])))))), D.sl false false (Ty.int IntKind.i64).sl (narW (Pr.mk (Gr.mk (2 : Int) (2 : Int) [false, false, false, false] [false, false, false, false] [false, false, false, false]) (List.take 3 (List.drop 0 [List.take 2 (List.drop 0 [(0 : Int), (1 : Int)]), List.take 2 (List.drop 0 [(1 : Int), (0 : Int)]), List.take 2 (List.drop 0 [(0 : Int), (2 : Int)])])) (Nt (List.take 4 (List.drop 0 [(7 : (Ty.int IntKind.u64).El), (7 : (Ty.int IntKind.u64).El), (7 : (Ty.int IntKind.u64).El), (7 : (Ty.int IntKind.u64).El)]))))), D.v (Value.bool (narO (Pr.mk (Gr.mk (2 : Int) (2 : Int) [false, false, false, false] [false, false, false, false] [false, false, false, false]) (List.take 3 (List.drop 0 [List.take 2 (List.drop 0 [(0 : Int), (1 : Int)]), List.take 2 (List.drop 0 [(1 : Int), (0 : Int)]), List.take 2 (List.drop 0 [(0 : Int), (2 : Int)])])) (Nt (List.take 4 (List.drop 0 [(7 : (Ty.int IntKind.u64).El), (7 : (Ty.int IntKind.u64).El), (7 : (Ty.int IntKind.u64).El), (7 : (Ty.int IntKind.u64).El)]))))))], D.v (Value.int IntKind.i64 (checkP (Pr.mk (Gr.mk (2 : Int) (2 : Int) [false, false, false, false] [false, false, false, false] [false, false, false, false]) (List.take 3 (List.drop 0 [List.take 2 (List.drop 0 [(0 : Int), (1 : Int)]), List.take 2 (List.drop 0 [(1 : Int), (0 : Int)]), List.take 2 (List.drop 0 [(0 : Int), (2 : Int)])])) (Nt (List.take 4 (List.drop 0 [(7 : (Ty.int IntKind.u64).El), (7 : (Ty.int IntKind.u64).El), (7 : (Ty.int IntKind.u64).El), (7 : (Ty.int IntKind.u64).El)]))))))]) [] [] ∧ Value.int IntKind.i64 (2 : Int) = Value.int IntKind.i64 (Pr.mk (Gr.mk (2 : Int) (2 : Int) [false, false, false, false] [false, false, false, false] [false, false, false, false]) (List.take 3 (List.drop 0 [List.take 2 (List.drop 0 [(0 : Int), (1 : Int)]), List.take 2 (List.drop 0 [(1 : Int), (0 : Int)]), List.take 2 (List.drop 0 [(0 : Int), (2 : Int)])])) (Nt (List.take 4 (List.drop 0 [(7 : (Ty.int IntKind.u64).El), (7 : (Ty.int IntKind.u64).El), (7 : (Ty.int IntKind.u64).El), (7 : (Ty.int IntKind.u64).El)])))).g.h ∧ Value.int IntKind.i64 (2 : Int) = Value.int IntKind.i64 (Pr.mk (Gr.mk (2 : Int) (2 : Int) [false, false, false, false] [false, false, false, false] [false, false, false, false]) (List.take 3 (List.drop 0 [List.take 2 (List.drop 0 [(0 : Int), (1 : Int)]), List.take 2 (List.drop 0 [(1 : Int), (0 : Int)]), List.take 2 (List.drop 0 [(0 : Int), (2 : Int)])])) (Nt (List.take 4 (List.drop 0 [(7 : (Ty.int IntKind.u64).El), (7 : (Ty.int IntKind.u64).El), (7 : (Ty.int IntKind.u64).El), (7 : (Ty.int IntKind.u64).El)])))).g.w ∧ List.take 4 (List.drop 0 [false, false, false, false]) = (Pr.mk (Gr.mk (2 : Int) (2 : Int) [false, false, false, false] [false, false, false, false] [false, false, false, false]) (List.take 3 (List.drop 0 [List.take 2 (List.drop 0 [(0 : Int), (1 : Int)]), List.take 2 (List.drop 0 [(1 : Int), (0 : Int)]), List.take 2 (List.drop 0 [(0 : Int), (2 : Int)])])) (Nt (List.take 4 (List.drop 0 [(7 : (Ty.int IntKind.u64).El), (7 : (Ty.int IntKind.u64).El), (7 : (Ty.int IntKind.u64).El), (7 : (Ty.int IntKind.u64).El)])))).g.B ∧ List.take 4 (List.drop 0 [false, false, false, false]) = (Pr.mk (Gr.mk (2 : Int) (2 : Int) [false, false, false, false] [false, false, false, false] [false, false, false, false]) (List.take 3 (List.drop 0 [List.take 2 (List.drop 0 [(0 : Int), (1 : Int)]), List.take 2 (List.drop 0 [(1 : Int), (0 : Int)]), List.take 2 (List.drop 0 [(0 : Int), (2 : Int)])])) (Nt (List.take 4 (List.drop 0 [(7 : (Ty.int IntKind.u64).El), (7 : (Ty.int IntKind.u64).El), (7 : (Ty.int IntKind.u64).El), (7 : (Ty.int IntKind.u64).El)])))).g.R ∧ List.take 4 (List.drop 0 [false, false, false, false]) = (Pr.mk (Gr.mk (2 : Int) (2 : Int) [false, false, false, false] [false, false, false, false] [false, false, false, false]) (List.take 3 (List.drop 0 [List.take 2 (List.drop 0 [(0 : Int), (1 : Int)]), List.take 2 (List.drop 0 [(1 : Int), (0 : Int)]), List.take 2 (List.drop 0 [(0 : Int), (2 : Int)])])) (Nt (List.take 4 (List.drop 0 [(7 : (Ty.int IntKind.u64).El), (7 : (Ty.int IntKind.u64).El), (7 : (Ty.int IntKind.u64).El), (7 : (Ty.int IntKind.u64).El)])))).g.L ∧ List.take 3 (List.drop 0 [List.take 2 (List.drop 0 [(0 : Int), (1 : Int)]), List.take 2 (List.drop 0 [(1 : Int), (0 : Int)]), List.take 2 (List.drop 0 [(0 : Int), (2 : Int)])]) = (Pr.mk (Gr.mk (2 : Int) (2 : Int) [false, false, false, false] [false, false, false, false] [false, false, false, false]) (List.take 3 (List.drop 0 [List.take 2 (List.drop 0 [(0 : Int), (1 : Int)]), List.take 2 (List.drop 0 [(1 : Int), (0 : Int)]), List.take 2 (List.drop 0 [(0 : Int), (2 : Int)])])) (Nt (List.take 4 (List.drop 0 [(7 : (Ty.int IntKind.u64).El), (7 : (Ty.int IntKind.u64).El), (7 : (Ty.int IntKind.u64).El), (7 : (Ty.int IntKind.u64).El)])))).W ∧ List.take 4 (List.drop 0 [(7 : (Ty.int IntKind.u64).El), (7 : (Ty.int IntKind.u64).El), (7 : (Ty.int IntKind.u64).El), (7 : (Ty.int IntKind.u64).El)]) = Mi (Pr.mk (Gr.mk (2 : Int) (2 : Int) [false, false, false, false] [false, false, false, false] [false, false, false, false]) (List.take 3 (List.drop 0 [List.take 2 (List.drop 0 [(0 : Int), (1 : Int)]), List.take 2 (List.drop 0 [(1 : Int), (0 : Int)]), List.take 2 (List.drop 0 [(0 : Int), (2 : Int)])])) (Nt (List.take 4 (List.drop 0 [(7 : (Ty.int IntKind.u64).El), (7 : (Ty.int IntKind.u64).El), (7 : (Ty.int IntKind.u64).El), (7 : (Ty.int IntKind.u64).El)])))).M ∧ ((checkP (Pr.mk (Gr.mk (2 : Int) (2 : Int) [false, false, false, false] [false, false, false, false] [false, false, false, false]) (List.take 3 (List.drop 0 [List.take 2 (List.drop 0 [(0 : Int), (1 : Int)]), List.take 2 (List.drop 0 [(1 : Int), (0 : Int)]), List.take 2 (List.drop 0 [(0 : Int), (2 : Int)])])) (Nt (List.take 4 (List.drop 0 [(7 : (Ty.int IntKind.u64).El), (7 : (Ty.int IntKind.u64).El), (7 : (Ty.int IntKind.u64).El), (7 : (Ty.int IntKind.u64).El)])))) == (0 : Int)) = true → (narO (Pr.mk (Gr.mk (2 : Int) (2 : Int) [false, false, false, false] [false, false, false, false] [false, false, false, false]) (List.take 3 (List.drop 0 [List.take 2 (List.drop 0 [(0 : Int), (1 : Int)]), List.take 2 (List.drop 0 [(1 : Int), (0 : Int)]), List.take 2 (List.drop 0 [(0 : Int), (2 : Int)])])) (Nt (List.take 4 (List.drop 0 [(7 : (Ty.int IntKind.u64).El), (7 : (Ty.int IntKind.u64).El), (7 : (Ty.int IntKind.u64).El), (7 : (Ty.int IntKind.u64).El)])))) = true → (((↑4 : Int) == (4 : Int)) = true → (0 : Int) ≤ (1 : Int) ∧ (1 : Int) < (↑4 : Int) ∧ (((Mi (narM (Pr.mk (Gr.mk (2 : Int) (2 : Int) [false, false, false, false] [false, false, false, false] [false, false, false, false]) (List.take 3 (List.drop 0 [List.take 2 (List.drop 0 [(0 : Int), (1 : Int)]), List.take 2 (List.drop 0 [(1 : Int), (0 : Int)]), List.take 2 (List.drop 0 [(0 : Int), (2 : Int)])])) (Nt (List.take 4 (List.drop 0 [(7 : (Ty.int IntKind.u64).El), (7 : (Ty.int IntKind.u64).El), (7 : (Ty.int IntKind.u64).El), (7 : (Ty.int IntKind.u64).El)])))))).getD 1 (Ty.int IntKind.u64).dflt == (3 : Int)) = true → (0 : Int) ≤ (3 : Int) ∧ (3 : Int) < (↑4 : Int) ∧ (((Mi (narM (Pr.mk (Gr.mk (2 : Int) (2 : Int) [false, false, false, false] [false, false, false, false] [false, false, false, false]) (List.take 3 (List.drop 0 [List.take 2 (List.drop 0 [(0 : Int), (1 : Int)]), List.take 2 (List.drop 0 [(1 : Int), (0 : Int)]), List.take 2 (List.drop 0 [(0 : Int), (2 : Int)])])) (Nt (List.take 4 (List.drop 0 [(7 : (Ty.int IntKind.u64).El), (7 : (Ty.int IntKind.u64).El), (7 : (Ty.int IntKind.u64).El), (7 : (Ty.int IntKind.u64).El)])))))).getD 3 (Ty.int IntKind.u64).dflt == (7 : Int)) = true → (((↑4 : Int) == (4 : Int)) = true → (0 : Int) ≤ (0 : Int) ∧ (0 : Int) < (↑4 : Int) ∧ R (D.v (Value.bool ((↑2 : Int) == (2 : Int))), [], [])) ∧ (((↑4 : Int) == (4 : Int)) = false → R (D.v (Value.bool false), [], []))) ∧ (((Mi (narM (Pr.mk (Gr.mk (2 : Int) (2 : Int) [false, false, false, false] [false, false, false, false] [false, false, false, false]) (List.take 3 (List.drop 0 [List.take 2 (List.drop 0 [(0 : Int), (1 : Int)]), List.take 2 (List.drop 0 [(1 : Int), (0 : Int)]), List.take 2 (List.drop 0 [(0 : Int), (2 : Int)])])) (Nt (List.take 4 (List.drop 0 [(7 : (Ty.int IntKind.u64).El), (7 : (Ty.int IntKind.u64).El), (7 : (Ty.int IntKind.u64).El), (7 : (Ty.int IntKind.u64).El)])))))).getD 3 (Ty.int IntKind.u64).dflt == (7 : Int)) = false → false = false ∧ R (D.v (Value.bool false), [], []))) ∧ (((Mi (narM (Pr.mk (Gr.mk (2 : Int) (2 : Int) [false, false, false, false] [false, false, false, false] [false, false, false, false]) (List.take 3 (List.drop 0 [List.take 2 (List.drop 0 [(0 : Int), (1 : Int)]), List.take 2 (List.drop 0 [(1 : Int), (0 : Int)]), List.take 2 (List.drop 0 [(0 : Int), (2 : Int)])])) (Nt (List.take 4 (List.drop 0 [(7 : (Ty.int IntKind.u64).El), (7 : (Ty.int IntKind.u64).El), (7 : (Ty.int IntKind.u64).El), (7 : (Ty.int IntKind.u64).El)])))))).getD 1 (Ty.int IntKind.u64).dflt == (3 : Int)) = false → false = false ∧ false = false ∧ R (D.v (Value.bool false), [], []))) ∧ (((↑4 : Int) == (4 : Int)) = false → false = false ∧ false = false ∧ false = false ∧ R (D.v (Value.bool false), [], []))) ∧ (narO (Pr.mk (Gr.mk (2 : Int) (2 : Int) [false, false, false, false] [false, false, false, false] [false, false, false, false]) (List.take 3 (List.drop 0 [List.take 2 (List.drop 0 [(0 : Int), (1 : Int)]), List.take 2 (List.drop 0 [(1 : Int), (0 : Int)]), List.take 2 (List.drop 0 [(0 : Int), (2 : Int)])])) (Nt (List.take 4 (List.drop 0 [(7 : (Ty.int IntKind.u64).El), (7 : (Ty.int IntKind.u64).El), (7 : (Ty.int IntKind.u64).El), (7 : (Ty.int IntKind.u64).El)])))) = false → false = false ∧ false = false ∧ false = false ∧ false = false ∧ R (D.v (Value.bool false), [], []))) ∧ ((checkP (Pr.mk (Gr.mk (2 : Int) (2 : Int) [false, false, false, false] [false, false, false, false] [false, false, false, false]) (List.take 3 (List.drop 0 [List.take 2 (List.drop 0 [(0 : Int), (1 : Int)]), List.take 2 (List.drop 0 [(1 : Int), (0 : Int)]), List.take 2 (List.drop 0 [(0 : Int), (2 : Int)])])) (Nt (List.take 4 (List.drop 0 [(7 : (Ty.int IntKind.u64).El), (7 : (Ty.int IntKind.u64).El), (7 : (Ty.int IntKind.u64).El), (7 : (Ty.int IntKind.u64).El)])))) == (0 : Int)) = false → false = false ∧ false = false ∧ false = false ∧ false = false ∧ false = false ∧ R (D.v (Value.bool false), [], []))) hmG Try.func57 (by kernel_rfl) (by kernel_rfl) (fun G R => by kernel_rfl) ?_
  try dsimp only
  obtain ⟨h1, h2, h3, h4⟩ := nar0
  have c1 := d96 [[0, 1], [1, 0], [0, 2]]
  have c2 := d59s p0.g p0.W p0.M (by intro x hx; have hx : x ∈ [7, 7, 7, 7] := hx; simp only [List.mem_cons, List.not_mem_nil, or_false, or_self] at hx; rw [hx]; decide)
  unfold p0 at h1 h2 h3 h4 c2
  simp only [h1, h2, h3, h4] at c2
  simp only [List.drop_zero, List.take_succ_cons, List.take_zero, Nt, List.map, show ((7 : Int)).toNat = 7 from rfl, h1, h2, h3, h4]
  repeat' (first | with_reducible refine And.intro ?_ ?_ | intro _)
  all_goals first | rfl | omega | decide | trivial | exact c1 | exact c2 | skip
end Go.Proofs.YtnakmganodkliaaAm
namespace Go.Proofs.YtnakmganodkliaaAm
open Go
theorem narM_eq {p : Pr} (h : checkP p = 0) : narM p = gfpF p.W (slotsF p.g) (m0F p) := if_pos h
theorem narW_eq {p : Pr} (h : checkP p = 0) : narW p = wordsF p.W (slotsF p.g) (narM p) := if_pos h
theorem narO_eq {p : Pr} (h : checkP p = 0) : narO p = okF (slotsF p.g) (narM p) (narW p) := if_pos h
theorem narW_len {p : Pr} (h : checkP p = 0) : (narW p).length = (slotsF p.g).length := by rw [narW_eq h]; simp [wordsF]
theorem narW_at {p : Pr} (h : checkP p = 0) {j : Nat} (hj : j < (slotsF p.g).length) : (narW p).getD j [] = idxF (fitL (narM p) (sAtN (slotsF p.g) j).2.2) 0 p.W := by
  rw [narW_eq h]
  unfold wordsF
  simp [List.getD_eq_getElem?_getD, hj, sAtN]
theorem nar_stable {p : Pr} (h : checkP p = 0) : Stable p.W (slotsF p.g) (narM p) := by rw [narM_eq h]; exact gfp_stable _ _ _
theorem nar_leq {p : Pr} (h : checkP p = 0) : Leq (narM p) (m0F p) := by rw [narM_eq h]; exact gfp_leq _ _ _
theorem nar_small {p : Pr} (h : checkP p = 0) (hM : Smalls p.M) : Smalls (narM p) := leq_small (nar_leq h) (by
  unfold m0F
  exact seatSlots_small hM _ (rep_small _))
theorem m0_leq {p : Pr} : Leq (m0F p) p.M := by
  intro c i hi
  have hc : c < p.M.length := by have := bit_lt hi; rwa [m0_len] at this
  unfold bitAt at hi ⊢
  rw [m0_get hc] at hi
  split at hi
  · exact hi
  · simp at hi
theorem nar_given {p : Pr} (h : checkP p = 0) : Leq (narM p) p.M := (nar_leq h).trans m0_leq
theorem leq_and {a b : List Nat} (h : Leq a b) (j : Nat) : a.getD j 0 &&& b.getD j 0 = a.getD j 0 := by
  apply Nat.eq_of_testBit_eq
  intro i
  rw [Nat.testBit_and]
  cases hb : (a.getD j 0).testBit i with
  | false => rfl
  | true => rw [show (b.getD j 0).testBit i = true from h j i hb]; rfl
theorem m0_mono {p : Pr} {M' : List Nat} (hl : M'.length = p.M.length) (h : Leq M' p.M) : Leq (m0F ⟨p.g, p.W, M'⟩) (m0F p) := by
  intro c i hi
  have hc : c < p.M.length := by
    have := bit_lt hi
    rw [m0_len] at this
    simpa only [hl] using this
  unfold bitAt at hi ⊢
  rw [m0_get (p := ⟨p.g, p.W, M'⟩) (by simpa only [hl] using hc)] at hi
  rw [m0_get hc]
  simp only at hi
  split at hi
  · rename_i hs
    rw [if_pos hs]
    exact h c i hi
  · simp at hi
theorem gfp_mono {W : List (List Int)} {S : List Slt} {a b : List Nat} (h : Leq a b) : Leq (gfpF W S a) (gfpF W S b) := gfp_most W S b (gfp_stable W S a) ((gfp_leq W S a).trans h)
theorem nar_mono {p : Pr} (h : checkP p = 0) {M' : List Nat} (hl : M'.length = p.M.length) (hM : Leq M' p.M) : Leq (narM ⟨p.g, p.W, M'⟩) (narM p) := by
  have hc : checkP ⟨p.g, p.W, M'⟩ = 0 := by rw [again_check hl]; exact h
  rw [narM_eq hc, narM_eq h]
  exact gfp_mono (m0_mono hl hM)
theorem idx_leq {W : List (List Int)} {a b : List Nat} (h : Leq a b) (C : List Int) : (idxF (fitL a C) 0 W).Sublist (idxF (fitL b C) 0 W) := by
  have e : keepI W a C (idxF (fitL b C) 0 W) = idxF (fitL a C) 0 W := keep_idx fun w hw => fit_mono h hw
  rw [← e]
  unfold keepI
  exact List.filter_sublist
theorem idx_sorted (f : List Int → Bool) : ∀ (V : List (List Int)) (i : Int), (idxF f i V).Pairwise (· < ·)
  | [], _ => List.Pairwise.nil
  | v :: V, i => by
    have ih := idx_sorted f V (i + 1)
    simp only [idxF]
    split
    · refine List.pairwise_cons.2 ⟨fun x hx => ?_, ih⟩
      have := (idx_range f V (i + 1) x hx).1
      omega
    · exact ih
theorem ok_mono {W : List (List Int)} {S : List Slt} {a b : List Nat} (h : Leq a b) (hk : okF S a (wordsF W S a) = true) : okF S b (wordsF W S b) = true := by
  unfold okF wordsF at hk ⊢
  rw [Bool.and_eq_true, List.all_eq_true, List.all_eq_true] at hk ⊢
  refine ⟨fun w hw => ?_, fun s hs => ?_⟩
  · rw [List.mem_map] at hw
    obtain ⟨s, hs, e⟩ := hw
    have h1 := hk.1 _ (List.mem_map_of_mem hs)
    have h2 := (idx_leq (W := W) h s.2.2).length_le
    rw [decide_eq_true_eq] at h1 ⊢
    rw [← e]
    omega
  · have h1 := hk.2 s hs
    rw [List.all_eq_true] at h1 ⊢
    intro c hc
    have h3 := h1 c hc
    rw [bne_iff_ne] at h3 ⊢
    intro e
    apply h3
    have : a.getD c.toNat 0 ≤ b.getD c.toNat 0 := sub_le fun i hi => h _ i hi
    omega
theorem narO_mono {p : Pr} (h : checkP p = 0) {M' : List Nat} (hl : M'.length = p.M.length) (hM : Leq M' p.M) (hk : narO ⟨p.g, p.W, M'⟩ = true) : narO p = true := by
  have hc : checkP ⟨p.g, p.W, M'⟩ = 0 := by rw [again_check hl]; exact h
  rw [narO_eq hc, narW_eq hc] at hk
  rw [narO_eq h, narW_eq h]
  exact ok_mono (nar_mono h hl hM) hk
theorem there_perm {W W' : List (List Int)} (h : ∀ w, w ∈ W' ↔ w ∈ W) (ok : List Int → Bool) (k : Nat) : thereF W' ok k = thereF W ok k := by
  apply Nat.eq_of_testBit_eq
  intro i
  apply Bool.eq_iff_iff.2
  rw [there_bits, there_bits]
  simp only [h]
theorem stable_perm {W W' : List (List Int)} (h : ∀ w, w ∈ W' ↔ w ∈ W) {S : List Slt} {m : List Nat} (hs : Stable W S m) : Stable W' S m := fun s hS j x hx i hi => by
  rw [there_perm h]
  exact hs s hS j x hx i hi
theorem gfp_perm {W W' : List (List Int)} (h : ∀ w, w ∈ W' ↔ w ∈ W) (S : List Slt) (m : List Nat) : gfpF W' S m = gfpF W S m := by
  refine leq_antisymm (by rw [gfp_len, gfp_len]) ?_ ?_
  · exact gfp_most W S m (stable_perm (fun w => (h w).symm) (gfp_stable W' S m)) (gfp_leq W' S m)
  · exact gfp_most W' S m (stable_perm h (gfp_stable W S m)) (gfp_leq W S m)
theorem idx_some {f : List Int → Bool} {W : List (List Int)} : (0 < (idxF f 0 W).length) ↔ ∃ w ∈ W, f w = true := by
  have e : (idxF f 0 W).length = (W.filter f).length := by rw [← idx_map, List.length_map]
  rw [e, List.length_pos_iff_exists_mem]
  simp only [List.mem_filter]
theorem ok_perm {W W' : List (List Int)} (h : ∀ w, w ∈ W' ↔ w ∈ W) (S : List Slt) (m : List Nat) : okF S m (wordsF W' S m) = okF S m (wordsF W S m) := by
  unfold okF wordsF
  congr 1
  rw [List.all_map, List.all_map]
  congr 1
  funext s
  simp only [Function.comp]
  have e1 := idx_some (f := fitL m s.2.2) (W := W')
  have e2 := idx_some (f := fitL m s.2.2) (W := W)
  simp only [h] at e1
  apply Bool.eq_iff_iff.2
  rw [decide_eq_true_eq, decide_eq_true_eq]
  constructor
  · intro q
    have := e2.2 (e1.1 (by omega))
    omega
  · intro q
    have := e1.2 (e2.1 (by omega))
    omega
theorem check_perm {p : Pr} {W' : List (List Int)} (h : ∀ w, w ∈ W' ↔ w ∈ p.W) (hl : W'.length = p.W.length) : checkP ⟨p.g, W', p.M⟩ = checkP p := by
  unfold checkP
  have e : W'.any badW = p.W.any badW := by
    apply Bool.eq_iff_iff.2
    rw [List.any_eq_true, List.any_eq_true]
    simp only [h]
  simp only [hl, e]
theorem nar_perm {p : Pr} (hc : checkP p = 0) {W' : List (List Int)} (h : ∀ w, w ∈ W' ↔ w ∈ p.W) (hl : W'.length = p.W.length) : narM ⟨p.g, W', p.M⟩ = narM p ∧ narO ⟨p.g, W', p.M⟩ = narO p := by
  have hc' : checkP ⟨p.g, W', p.M⟩ = 0 := by rw [check_perm h hl]; exact hc
  have e : narM ⟨p.g, W', p.M⟩ = narM p := by
    rw [narM_eq hc', narM_eq hc]
    exact gfp_perm h _ _
  refine ⟨e, ?_⟩
  rw [narO_eq hc', narO_eq hc, narW_eq hc', narW_eq hc, e]
  exact ok_perm h _ _
def letM (ls : List Int) : List Nat := ls.map bitN
theorem letM_bit {ls : List Int} {c i : Nat} (h : bitAt (letM ls) c i) : ls.getD c (-1) = (i : Int) ∧ i < 64 ∧ c < ls.length := by
  have hc : c < ls.length := by have := bit_lt h; simpa [letM] using this
  unfold bitAt letM at h
  have e : (ls.map bitN).getD c 0 = bitN ls[c] := by rw [List.getD_eq_getElem?_getD, List.getElem?_map, List.getElem?_eq_getElem hc]; rfl
  have e2 : ls.getD c (-1) = ls[c] := by rw [List.getD_eq_getElem?_getD, List.getElem?_eq_getElem hc]; rfl
  rw [e] at h
  rw [e2]
  unfold bitN at h
  split at h
  · simp at h
  · rename_i hb
    rw [Nat.testBit_two_pow, decide_eq_true_eq] at h
    omega
theorem letM_has {ls : List Int} {c : Nat} {x : Int} (h : ls.getD c (-1) = x) (h0 : 0 ≤ x) (h1 : x < 64) : bitAt (letM ls) c x.toNat := by
  have hc : c < ls.length := by
    apply Nat.lt_of_not_le
    intro hle
    rw [List.getD_eq_getElem?_getD, List.getElem?_eq_none hle] at h
    simp at h
    omega
  have e2 : ls.getD c (-1) = ls[c] := by rw [List.getD_eq_getElem?_getD, List.getElem?_eq_getElem hc]; rfl
  rw [e2] at h
  unfold bitAt letM
  have e : (ls.map bitN).getD c 0 = bitN ls[c] := by rw [List.getD_eq_getElem?_getD, List.getElem?_map, List.getElem?_eq_getElem hc]; rfl
  rw [e, h]
  unfold bitN
  rw [if_neg (by omega), Nat.testBit_two_pow, decide_eq_true_eq]
structure Picked (p : Pr) (pick : List Int) (n : Nat) (ls : List Int) : Prop where
  len : ls.length = p.M.length
  low : ∀ c, 0 ≤ ls.getD c (-1) → hasN (p.M.getD c 0) (ls.getD c (-1)) = true ∧ seatedB (slotsF p.g) c = true
  word : ∀ s, s < n → 0 ≤ pick.getD s 0 ∧ pick.getD s 0 < p.W.length ∧ (wordAt p.W (pick.getD s 0)).length = (sAtN (slotsF p.g) s).2.2.length
  here : ∀ s, s < n → ∀ j x, (sAtN (slotsF p.g) s).2.2[j]? = some x → ls.getD x.toNat (-1) = (wordAt p.W (pick.getD s 0)).getD j 0 ∧ 0 ≤ ls.getD x.toNat (-1)
theorem has_lt {m : Nat} {x : Int} (h : hasN m x = true) : 0 ≤ x ∧ x < 64 := by
  unfold hasN at h
  simp only [Bool.and_eq_true, decide_eq_true_eq] at h
  exact ⟨h.1, h.2.1⟩
theorem Picked.fit {p : Pr} {pick : List Int} {n : Nat} {ls : List Int} (q : Picked p pick n ls) {s : Nat} (hs : s < n) : fitL (letM ls) (sAtN (slotsF p.g) s).2.2 (wordAt p.W (pick.getD s 0)) = true := by
  rw [fit_iff]
  refine ⟨(q.word s hs).2.2, fun j x hx => ?_⟩
  obtain ⟨e, h0⟩ := q.here s hs j x hx
  have h1 := has_lt (q.low _ h0).1
  rw [has_bit, ← e]
  exact ⟨h1.1, h1.2, letM_has rfl h1.1 h1.2⟩
theorem word_in {W : List (List Int)} {i : Int} (h0 : 0 ≤ i) (h1 : i < W.length) : wordAt W i ∈ W := getD_in (by omega)
theorem Picked.stable {p : Pr} {pick : List Int} {n : Nat} {ls : List Int} (q : Picked p pick n ls) (hn : n = (slotsF p.g).length) : Stable p.W (slotsF p.g) (letM ls) := by
  intro t ht j x hx i hi
  obtain ⟨s, hs, e⟩ := List.getElem_of_mem ht
  have et : sAtN (slotsF p.g) s = t := by
    unfold sAtN
    rw [List.getD_eq_getElem?_getD, List.getElem?_eq_getElem hs]
    exact e
  rw [← et] at hx ⊢
  have hs' : s < n := by omega
  obtain ⟨e1, h0⟩ := q.here s hs' j x hx
  obtain ⟨e2, hi64, _⟩ := letM_bit hi
  have hw := q.word s hs'
  exact (there_bits _ _ _ _).2 ⟨hi64, _, word_in hw.1 hw.2.1, q.fit hs', by rw [← e1, e2]⟩
theorem Picked.below {p : Pr} {pick : List Int} {n : Nat} {ls : List Int} (q : Picked p pick n ls) : Leq (letM ls) (m0F p) := by
  intro c i hi
  obtain ⟨e, hi64, hc⟩ := letM_bit hi
  have h1 := q.low c (by omega)
  have hcM : c < p.M.length := by have := q.len; omega
  unfold bitAt
  rw [m0_get hcM, if_pos h1.2]
  have h2 := (has_bit.1 h1.1).2.2
  rw [e] at h2
  exact h2
theorem Picked.leq {p : Pr} {pick : List Int} {n : Nat} {ls : List Int} (hc : checkP p = 0) (q : Picked p pick n ls) (hn : n = (slotsF p.g).length) : Leq (letM ls) (narM p) := by
  rw [narM_eq hc]
  exact gfp_most _ _ _ (q.stable hn) q.below
theorem idx_mem {f : List Int → Bool} : ∀ {V : List (List Int)} {i k : Int}, 0 ≤ k → k < V.length → f (V.getD k.toNat []) = true → i + k ∈ idxF f i V
  | [], i, k, h0, h1, _ => by simp at h1; omega
  | v :: V, i, k, h0, h1, hf => by
    simp only [idxF]
    have hl : ((v :: V).length : Int) = V.length + 1 := by simp
    by_cases e : k = 0
    · subst e
      simp at hf
      rw [if_pos hf]
      simp
    · have ek : k.toNat = (k - 1).toNat + 1 := by omega
      rw [ek, List.getD_cons_succ] at hf
      have := idx_mem (i := i + 1) (k := k - 1) (by omega) (by omega) hf
      rw [show i + 1 + (k - 1) = i + k by omega] at this
      split
      · exact List.mem_cons_of_mem _ this
      · exact this
theorem Picked.found {p : Pr} {pick : List Int} {n : Nat} {ls : List Int} (hc : checkP p = 0) (q : Picked p pick n ls) (hn : n = (slotsF p.g).length) {s : Nat} (hs : s < n) : pick.getD s 0 ∈ (narW p).getD s [] := by
  rw [narW_at hc (by omega)]
  have hw := q.word s hs
  have := idx_mem (f := fitL (narM p) (sAtN (slotsF p.g) s).2.2) (V := p.W) (i := 0) hw.1 hw.2.1 (fit_mono (q.leq hc hn) (q.fit hs))
  rwa [Int.zero_add] at this
theorem Picked.left {p : Pr} {pick : List Int} {n : Nat} {ls : List Int} (hc : checkP p = 0) (q : Picked p pick n ls) (hn : n = (slotsF p.g).length) {c : Nat} (h0 : 0 ≤ ls.getD c (-1)) : hasN ((narM p).getD c 0) (ls.getD c (-1)) = true := by
  have h1 := has_lt (q.low c h0).1
  exact has_bit.2 ⟨h1.1, h1.2, q.leq hc hn _ _ (letM_has rfl h1.1 h1.2)⟩
theorem Picked.ok {p : Pr} {pick : List Int} {n : Nat} {ls : List Int} (hc : checkP p = 0) (q : Picked p pick n ls) (hn : n = (slotsF p.g).length) : narO p = true := by
  rw [narO_eq hc]
  unfold okF
  rw [Bool.and_eq_true, List.all_eq_true, List.all_eq_true]
  refine ⟨fun w hw => ?_, fun t ht => ?_⟩
  · obtain ⟨s, hs, e⟩ := List.getElem_of_mem hw
    have hs' : s < n := by rw [narW_len hc] at hs; omega
    have h1 := q.found hc hn hs'
    have e2 : (narW p).getD s [] = w := by rw [List.getD_eq_getElem?_getD, List.getElem?_eq_getElem hs]; exact e
    rw [e2] at h1
    have := List.length_pos_of_mem h1
    rw [decide_eq_true_eq]
    omega
  · rw [List.all_eq_true]
    intro x hx
    obtain ⟨s, hs, e⟩ := List.getElem_of_mem ht
    have et : sAtN (slotsF p.g) s = t := by
      unfold sAtN
      rw [List.getD_eq_getElem?_getD, List.getElem?_eq_getElem hs]
      exact e
    rw [← et] at hx
    obtain ⟨j, hj⟩ := List.getElem?_of_mem hx
    have h1 := (has_bit.1 (q.left hc hn (q.here s (by omega) j x hj).2)).2.2
    rw [bne_iff_ne]
    intro e0
    unfold bitAt at h1
    rw [e0] at h1
    simp at h1
end Go.Proofs.YtnakmganodkliaaAm
set_option maxRecDepth 100000
namespace Go.Proofs.YtnakmganodkliaaAm
open Go
theorem at_some {α : Type} {l : List α} {k : Nat} (h : k < l.length) {d : α} : l[k]? = some (l.getD k d) := by
  rw [List.getD_eq_getElem?_getD, List.getElem?_eq_getElem h]
  rfl
theorem andn_zero {a b : Nat} (ha : a < W64) (hb : b < W64) (h : a &&& b = a) : IntKind.u64.wrap ((BitVec.ofInt 64 (a : Int) &&& ~~~BitVec.ofInt 64 (b : Int)).toNat : Int) = 0 := by
  have e : BitVec.ofInt 64 (a : Int) &&& ~~~BitVec.ofInt 64 (b : Int) = 0#64 := by
    rw [BitVec.ofInt_natCast, BitVec.ofInt_natCast]
    apply BitVec.eq_of_getLsbD_eq
    intro i hi
    have h2 := congrArg (fun n : Nat => n.testBit i) h
    simp only [Nat.testBit_and] at h2
    simp only [BitVec.getLsbD_and, BitVec.getLsbD_not, BitVec.getLsbD_ofNat, BitVec.getLsbD_zero, hi, decide_true, Bool.true_and]
    revert h2
    cases a.testBit i <;> cases b.testBit i <;> simp
  rw [e]
  rfl
theorem wrap_or {a b : Nat} (ha : a < W64) (hb : b < W64) : IntKind.u64.wrap (((BitVec.ofInt 64 (a : Int) ||| BitVec.ofInt 64 (b : Int)).toNat : Nat) : Int) = ((a ||| b : Nat) : Int) := by
  rw [orU ha hb]
  exact wrU' (or_lt ha hb)
theorem ofA_cons (th : Nat) (x : Int) (l : List Int) : ofA th (x :: l) = ofA (th ||| ofN [x]) l := by
  simp only [ofA, ofN]
  split
  · rw [Nat.zero_or]
  · rw [Nat.or_zero]
structure Slot18 (W : List (List Int)) (M m : List Nat) (C l : List Int) : Prop where
  cells : ∀ c ∈ C, 0 ≤ c ∧ c < m.length ∧ c < M.length
  words : ∀ x ∈ l, 0 ≤ x ∧ x < W.length ∧ (W.getD x.toNat []).length = C.length ∧ ∀ k : Nat, k < C.length → hasN (m.getD (C.getD k 0).toNat 0) ((W.getD x.toNat []).getD k 0) = true
  there : ∀ k : Nat, k < C.length → m.getD (C.getD k 0).toNat 0 &&& ofN (l.map fun x => (W.getD x.toNat []).getD k 0) = m.getD (C.getD k 0).toNat 0
  few : l.length ≤ 1000
  short : C.length ≤ 300
theorem slot18 {p : Pr} (hc : checkP p = 0) (hM : Smalls p.M) {j : Nat} (hj : j < (slotsF p.g).length) : Slot18 p.W p.M (narM p) (sAtN (slotsF p.g) j).2.2 ((narW p).getD j []) := by
  have F := fine_of (g := p.g) (W := p.W) (M := p.M) hc hM
  have hs : sAtN (slotsF p.g) j ∈ slotsF p.g := getD_in hj
  have hcl := F.cells _ hs
  have hnl := narM_len p hc
  have hW1 : (p.W.length : Int) ≤ 1000 := (checkP_zero hc).2.1
  rw [narW_at hc hj]
  refine ⟨fun c h => ?_, fun x hx => ?_, fun k hk => ?_, ?_, hcl.1⟩
  · have := hcl.2 c h
    omega
  · obtain ⟨h1, h2, h3, h4⟩ := idx_word hx
    obtain ⟨h5, h6⟩ := (fit_iff _ _ _).1 h4
    refine ⟨h1, h2, h5, fun k hk => ?_⟩
    have := h6 k ((sAtN (slotsF p.g) j).2.2.getD k 0) (at_some hk)
    exact this
  · apply Nat.eq_of_testBit_eq
    intro i
    rw [Nat.testBit_and]
    cases hb : ((narM p).getD ((sAtN (slotsF p.g) j).2.2.getD k 0).toNat 0).testBit i with
    | false => rfl
    | true =>
      have h1 := nar_stable hc _ hs k ((sAtN (slotsF p.g) j).2.2.getD k 0) (at_some hk) i hb
      unfold thereF at h1
      rw [← idx_map, List.map_map] at h1
      rw [Bool.true_and]
      exact h1
  · have := idx_len (fitL (narM p) (sAtN (slotsF p.g) j).2.2) p.W 0
    omega
theorem narM_no {p : Pr} (h : checkP p ≠ 0) : narM p = [] := if_neg h
theorem narW_no {p : Pr} (h : checkP p ≠ 0) : narW p = [] := if_neg h
theorem narO_no {p : Pr} (h : checkP p ≠ 0) : narO p = false := if_neg h
def vq23 (g : Gr) (W : List (List Int)) (M : List Nat) (m : List Nat) (ws : List (List Int)) (o : Bool) (S : List Slt) (a : Bool) (i : Int) (num : Int) (dn : Bool) (C : List Int) (l : List Int) (k : Int) (c : Int) (t : Int) (th : Nat) (G : Nat → St → Prop) (R : D × List (Option Row) × List Row → Prop) : Prop := (decide (t < (↑l.length : Int)) = true → (0 : Int) ≤ t ∧ t < (↑l.length : Int) ∧ (decide (l.getD t.toNat (Ty.int IntKind.i64).dflt < (0 : Int)) = true → true = true ∧ true = true ∧ true = true ∧ R (D.v (Value.bool false), [], [])) ∧ (decide (l.getD t.toNat (Ty.int IntKind.i64).dflt < (0 : Int)) = false → (decide (l.getD t.toNat (Ty.int IntKind.i64).dflt ≥ (↑W.length : Int)) = true → true = true ∧ true = true ∧ R (D.v (Value.bool false), [], [])) ∧ (decide (l.getD t.toNat (Ty.int IntKind.i64).dflt ≥ (↑W.length : Int)) = false → (0 : Int) ≤ l.getD t.toNat (Ty.int IntKind.i64).dflt ∧ l.getD t.toNat (Ty.int IntKind.i64).dflt < (↑W.length : Int) ∧ (((↑(List.length (W.getD (Int.toNat (l.getD t.toNat (Ty.int IntKind.i64).dflt)) (Ty.int IntKind.i64).sl.dflt)) : Int) != (↑C.length : Int)) = true → true = true ∧ R (D.v (Value.bool false), [], [])) ∧ (((↑(List.length (W.getD (Int.toNat (l.getD t.toNat (Ty.int IntKind.i64).dflt)) (Ty.int IntKind.i64).sl.dflt)) : Int) != (↑C.length : Int)) = false → (0 : Int) ≤ c ∧ c < (↑(Mi m).length : Int) ∧ (0 : Int) ≤ l.getD t.toNat (Ty.int IntKind.i64).dflt ∧ l.getD t.toNat (Ty.int IntKind.i64).dflt < (↑W.length : Int) ∧ (0 : Int) ≤ k ∧ k < (↑(List.length (W.getD (Int.toNat (l.getD t.toNat (Ty.int IntKind.i64).dflt)) (Ty.int IntKind.i64).sl.dflt)) : Int) ∧ Con Try.prog 66 [] [D.v (Value.int IntKind.u64 ((Mi m).getD c.toNat (Ty.int IntKind.u64).dflt)), D.v (Value.int IntKind.i64 (List.getD (W.getD (Int.toNat (l.getD t.toNat (Ty.int IntKind.i64).dflt)) (Ty.int IntKind.i64).sl.dflt) k.toNat (Ty.int IntKind.i64).dflt))] (D.v (Value.bool (hasN (Int.toNat ((Mi m).getD c.toNat (Ty.int IntKind.u64).dflt)) (List.getD (W.getD (Int.toNat (l.getD t.toNat (Ty.int IntKind.i64).dflt)) (Ty.int IntKind.i64).sl.dflt) k.toNat (Ty.int IntKind.i64).dflt)))) [] [] ∧ Value.int IntKind.u64 ((Mi m).getD c.toNat (Ty.int IntKind.u64).dflt) = Value.int IntKind.u64 ((Mi m).getD c.toNat (Ty.int IntKind.u64).dflt) ∧ Value.int IntKind.i64 (List.getD (W.getD (Int.toNat (l.getD t.toNat (Ty.int IntKind.i64).dflt)) (Ty.int IntKind.i64).sl.dflt) k.toNat (Ty.int IntKind.i64).dflt) = Value.int IntKind.i64 (List.getD (W.getD (Int.toNat (l.getD t.toNat (Ty.int IntKind.i64).dflt)) (Ty.int IntKind.i64).sl.dflt) k.toNat (Ty.int IntKind.i64).dflt) ∧ ((!hasN (Int.toNat ((Mi m).getD c.toNat (Ty.int IntKind.u64).dflt)) (List.getD (W.getD (Int.toNat (l.getD t.toNat (Ty.int IntKind.i64).dflt)) (Ty.int IntKind.i64).sl.dflt) k.toNat (Ty.int IntKind.i64).dflt)) = true → R (D.v (Value.bool false), [], [])) ∧ ((!hasN (Int.toNat ((Mi m).getD c.toNat (Ty.int IntKind.u64).dflt)) (List.getD (W.getD (Int.toNat (l.getD t.toNat (Ty.int IntKind.i64).dflt)) (Ty.int IntKind.i64).sl.dflt) k.toNat (Ty.int IntKind.i64).dflt)) = false → (0 : Int) ≤ l.getD t.toNat (Ty.int IntKind.i64).dflt ∧ l.getD t.toNat (Ty.int IntKind.i64).dflt < (↑W.length : Int) ∧ (0 : Int) ≤ k ∧ k < (↑(List.length (W.getD (Int.toNat (l.getD t.toNat (Ty.int IntKind.i64).dflt)) (Ty.int IntKind.i64).sl.dflt)) : Int) ∧ Con Try.prog 67 [] [D.sl false false (Ty.int IntKind.i64) (List.take 1 (List.drop 0 [List.getD (W.getD (Int.toNat (l.getD t.toNat (Ty.int IntKind.i64).dflt)) (Ty.int IntKind.i64).sl.dflt) k.toNat (Ty.int IntKind.i64).dflt]))] (D.v (Value.int IntKind.u64 (↑(ofN (List.take 1 (List.drop 0 [List.getD (W.getD (Int.toNat (l.getD t.toNat (Ty.int IntKind.i64).dflt)) (Ty.int IntKind.i64).sl.dflt) k.toNat (Ty.int IntKind.i64).dflt]))) : Int))) [] [] ∧ List.take 1 (List.drop 0 [List.getD (W.getD (Int.toNat (l.getD t.toNat (Ty.int IntKind.i64).dflt)) (Ty.int IntKind.i64).sl.dflt) k.toNat (Ty.int IntKind.i64).dflt]) = List.take 1 (List.drop 0 [List.getD (W.getD (Int.toNat (l.getD t.toNat (Ty.int IntKind.i64).dflt)) (Ty.int IntKind.i64).sl.dflt) k.toNat (Ty.int IntKind.i64).dflt]) ∧ SameK (KK n18 2) (KK n18 2) ∧ G 2 (stOf 207 [1, 3, 8, 9, 10, 11, 12, 13, 84, 85, 86, 92, 93, 94, 103, 104, 105] [D.ptr 0 0 0, D.ptr 1 0 0, D.v (Value.bool a), D.v (Value.int IntKind.i64 i), D.ptr 2 0 0, D.v (Value.int IntKind.i64 k), D.v (Value.int IntKind.i64 c), D.v (Value.int IntKind.u64 (IntKind.u64.wrap (↑(BitVec.ofInt 64 (↑th : Int) ||| BitVec.ofInt 64 (↑(ofN (List.take 1 (List.drop 0 [List.getD (W.getD (Int.toNat (l.getD t.toNat (Ty.int IntKind.i64).dflt)) (Ty.int IntKind.i64).sl.dflt) k.toNat (Ty.int IntKind.i64).dflt]))) : Int)).toNat : Int))), D.sl false false ((Ty.int IntKind.i64).prod (Ty.bool.prod (Ty.int IntKind.i64).sl)) S, D.v (Value.int IntKind.i64 (↑S.length : Int)), D.v (Value.int IntKind.i64 i), D.sl false false (Ty.int IntKind.i64) C, D.v (Value.int IntKind.i64 (↑C.length : Int)), D.v (Value.int IntKind.i64 k), D.sl false false (Ty.int IntKind.i64) l, D.v (Value.int IntKind.i64 (↑l.length : Int)), D.v (Value.int IntKind.i64 (IntKind.i64.wrap (t + (1 : Int))))] [Slot.live (Row.box 68 [D.v (Value.int IntKind.i64 g.h), D.v (Value.int IntKind.i64 g.w), D.sl false false Ty.bool g.B, D.sl false false Ty.bool g.R, D.sl false false Ty.bool g.L, D.sl false false (Ty.int IntKind.i64).sl W, D.sl false false (Ty.int IntKind.u64) (Mi M)]), Slot.live (Row.box 71 [D.sl false false (Ty.int IntKind.u64) (Mi m), D.sl false false (Ty.int IntKind.i64).sl ws, D.v (Value.bool o)]), Slot.live (Row.box 86 [D.v (Value.int IntKind.i64 num), D.v (Value.bool dn), D.sl false false (Ty.int IntKind.i64) C])])))))) ∧ (decide (t < (↑l.length : Int)) = false → (0 : Int) ≤ c ∧ c < (↑(Mi m).length : Int) ∧ ((IntKind.u64.wrap (↑(BitVec.ofInt 64 ((Mi m).getD c.toNat (Ty.int IntKind.u64).dflt) &&& ~~~BitVec.ofInt 64 (↑th : Int)).toNat : Int) != (0 : Int)) = true → true = true ∧ R (D.v (Value.bool false), [], [])) ∧ ((IntKind.u64.wrap (↑(BitVec.ofInt 64 ((Mi m).getD c.toNat (Ty.int IntKind.u64).dflt) &&& ~~~BitVec.ofInt 64 (↑th : Int)).toNat : Int) != (0 : Int)) = false → (0 : Int) ≤ c ∧ c < (↑(Mi m).length : Int) ∧ (0 : Int) ≤ c ∧ c < (↑(Mi M).length : Int) ∧ ((IntKind.u64.wrap (↑(BitVec.ofInt 64 ((Mi m).getD c.toNat (Ty.int IntKind.u64).dflt) &&& ~~~BitVec.ofInt 64 ((Mi M).getD c.toNat (Ty.int IntKind.u64).dflt)).toNat : Int) != (0 : Int)) = true → R (D.v (Value.bool false), [], [])) ∧ ((IntKind.u64.wrap (↑(BitVec.ofInt 64 ((Mi m).getD c.toNat (Ty.int IntKind.u64).dflt) &&& ~~~BitVec.ofInt 64 ((Mi M).getD c.toNat (Ty.int IntKind.u64).dflt)).toNat : Int) != (0 : Int)) = false → (a = true → (0 : Int) ≤ c ∧ c < (↑(Mi m).length : Int) ∧ SameK (KK n18 1) (KK n18 1) ∧ G 1 (stOf 207 [1, 3, 8, 9, 10, 84, 85, 86, 92, 93, 94] [D.ptr 0 0 0, D.ptr 1 0 0, D.v (Value.bool ((Mi m).getD c.toNat (Ty.int IntKind.u64).dflt != (0 : Int))), D.v (Value.int IntKind.i64 i), D.ptr 2 0 0, D.sl false false ((Ty.int IntKind.i64).prod (Ty.bool.prod (Ty.int IntKind.i64).sl)) S, D.v (Value.int IntKind.i64 (↑S.length : Int)), D.v (Value.int IntKind.i64 i), D.sl false false (Ty.int IntKind.i64) C, D.v (Value.int IntKind.i64 (↑C.length : Int)), D.v (Value.int IntKind.i64 (IntKind.i64.wrap (k + (1 : Int))))] [Slot.live (Row.box 68 [D.v (Value.int IntKind.i64 g.h), D.v (Value.int IntKind.i64 g.w), D.sl false false Ty.bool g.B, D.sl false false Ty.bool g.R, D.sl false false Ty.bool g.L, D.sl false false (Ty.int IntKind.i64).sl W, D.sl false false (Ty.int IntKind.u64) (Mi M)]), Slot.live (Row.box 71 [D.sl false false (Ty.int IntKind.u64) (Mi m), D.sl false false (Ty.int IntKind.i64).sl ws, D.v (Value.bool o)]), Slot.live (Row.box 86 [D.v (Value.int IntKind.i64 num), D.v (Value.bool dn), D.sl false false (Ty.int IntKind.i64) C])])) ∧ (a = false → SameK (KK n18 1) (KK n18 1) ∧ G 1 (stOf 207 [1, 3, 8, 9, 10, 84, 85, 86, 92, 93, 94] [D.ptr 0 0 0, D.ptr 1 0 0, D.v (Value.bool false), D.v (Value.int IntKind.i64 i), D.ptr 2 0 0, D.sl false false ((Ty.int IntKind.i64).prod (Ty.bool.prod (Ty.int IntKind.i64).sl)) S, D.v (Value.int IntKind.i64 (↑S.length : Int)), D.v (Value.int IntKind.i64 i), D.sl false false (Ty.int IntKind.i64) C, D.v (Value.int IntKind.i64 (↑C.length : Int)), D.v (Value.int IntKind.i64 (IntKind.i64.wrap (k + (1 : Int))))] [Slot.live (Row.box 68 [D.v (Value.int IntKind.i64 g.h), D.v (Value.int IntKind.i64 g.w), D.sl false false Ty.bool g.B, D.sl false false Ty.bool g.R, D.sl false false Ty.bool g.L, D.sl false false (Ty.int IntKind.i64).sl W, D.sl false false (Ty.int IntKind.u64) (Mi M)]), Slot.live (Row.box 71 [D.sl false false (Ty.int IntKind.u64) (Mi m), D.sl false false (Ty.int IntKind.i64).sl ws, D.v (Value.bool o)]), Slot.live (Row.box 86 [D.v (Value.int IntKind.i64 num), D.v (Value.bool dn), D.sl false false (Ty.int IntKind.i64) C])])))))
theorem e18c (g : Gr) (W : List (List Int)) (M : List Nat) (m : List Nat) (ws : List (List Int)) (o : Bool) (S : List Slt) (a : Bool) (i : Int) (num : Int) (dn : Bool) (C : List Int) (l : List Int) (k c : Int) (k0 : 0 ≤ k) (k1 : k < C.length) (hck : C.getD k.toNat 0 = c) (hm : Smalls m) (hM : Smalls M) (Sl : Slot18 W M m C l) (hG : ∀ j, m.getD j 0 &&& M.getD j 0 = m.getD j 0) (hx : GetsK Try.prog Try.f18.results.toList [none] (KK n18) 0 (.v (.bool true), [], []) 1 (stOf 207 [1,3,8,9,10,84,85,86,92,93,94] [.ptr 0 0 0, .ptr 1 0 0, .v (.bool (a && (m.getD c.toNat 0 != 0))), .v (.int .i64 i), .ptr 2 0 0, slS S, .v (.int .i64 S.length), .v (.int .i64 i), slI C, .v (.int .i64 C.length), .v (.int .i64 (k + 1))] [.live (.box 68 [.v (.int .i64 g.h), .v (.int .i64 g.w), .sl false false .bool g.B, .sl false false .bool g.R, .sl false false .bool g.L, slW W, slU M]), .live (.box 71 [slU m, slW ws, .v (.bool o)]), .live (.box 86 [.v (.int .i64 num), .v (.bool dn), slI C])])) (z : Nat) : ∀ (t : Int) (th : Nat), 0 ≤ t → t + z = l.length → ofA th ((l.drop t.toNat).map fun x => (W.getD x.toNat []).getD k.toNat 0) = ofN (l.map fun x => (W.getD x.toNat []).getD k.toNat 0) → th < W64 → GetsK Try.prog Try.f18.results.toList [none] (KK n18) 0 (.v (.bool true), [], []) 2 (stOf 207 [1,3,8,9,10,11,12,13,84,85,86,92,93,94,103,104,105] [.ptr 0 0 0, .ptr 1 0 0, .v (.bool a), .v (.int .i64 i), .ptr 2 0 0, .v (.int .i64 k), .v (.int .i64 c), u64 (th), slS S, .v (.int .i64 S.length), .v (.int .i64 i), slI C, .v (.int .i64 C.length), .v (.int .i64 k), slI l, .v (.int .i64 l.length), .v (.int .i64 t)] [.live (.box 68 [.v (.int .i64 g.h), .v (.int .i64 g.w), .sl false false .bool g.B, .sl false false .bool g.R, .sl false false .bool g.L, slW W, slU M]), .live (.box 71 [slU m, slW ws, .v (.bool o)]), .live (.box 86 [.v (.int .i64 num), .v (.bool dn), slI C])]) := by
  have hc := Sl.cells c (by rw [← hck]; exact getD_in (by omega))
  have hs := Sl.short
  have hf := Sl.few
  have hkk : IntKind.i64.wrap (k + 1) = k + 1 := wrG (by omega) (by omega)
  induction z with
  | zero =>
    intro t th t0 ht hth hlt
    rw [List.drop_eq_nil_of_le (by omega)] at hth
    have hth : th = ofN (l.map fun x => (W.getD x.toNat []).getD k.toNat 0) := hth
    have e1 := andn_zero (a := m.getD c.toNat 0) (b := th) (hm.at _) hlt (by rw [hth]; have := Sl.there k.toNat (by omega); rw [hck] at this; exact this)
    have e2 := andn_zero (a := m.getD c.toNat 0) (b := M.getD c.toNat 0) (hm.at _) (hM.at _) (hG _)
    have e0 : ((0 : Int) != 0) = false := rfl
    refine gets_vc spNc (fun k => [[1,3,8,84,85,86],[1,3,8,9,10,84,85,86,92,93,94],[1,3,8,9,10,11,12,13,84,85,86,92,93,94,103,104,105]].getD k []) (fun _ => []) 400 (.fork (.fork (.t (.t (.t .stop))) (.fork (.t (.t .stop)) (.fork (.t .stop) (.fork .stop (.hd 2))))) (.fork (.t .stop) (.fork .stop (.fork (.hd 1) (.hd 1))))) (V := vq23 g W M m ws o S a i num dn C l k c t th) hmG (fun G R => by kernel_rfl) ?_
    unfold vq23
    simp only [Ty.dflt, hkk, take_len, List.drop_zero, List.take_length, Mi_getD, Mi_len, Nt_Mi, Int.toNat_natCast, Mi_set, Nat.zero_add, Nat.sub_zero, List.length_set, take_one, takeSn, List.take_zero, List.nil_append, List.length_append, List.length_cons, List.length_nil, e1, e2, e0, cast_bne0]
    cases a with
    | false =>
      rw [Bool.false_and] at hx
      simp (disch := omega) only [wrG, sameK_iff, true_and, and_true, decide_eq_true_eq, decide_eq_false_iff_not, ne_eq, not_false_eq_true, Bool.false_eq_true, Bool.true_eq_false, false_implies, true_implies, Ty.dflt, reduceCtorEq, beq_iff_eq, bne_iff_ne, beq_eq_false_iff_ne, bne_eq_false_iff_eq, Bool.not_eq_true, Bool.not_eq_eq_eq_not, Bool.not_true, Bool.not_false, gt_iff_lt, ge_iff_le, Int.not_lt, Int.not_le]
      repeat' (first | with_reducible refine And.intro ?_ ?_ | intro _)
      all_goals first | rfl | omega | assumption | trivial | (exfalso; simp_all; done) | (exfalso; omega) | skip
    | true =>
      rw [Bool.true_and] at hx
      simp (disch := omega) only [wrG, sameK_iff, true_and, and_true, decide_eq_true_eq, decide_eq_false_iff_not, ne_eq, not_false_eq_true, Bool.false_eq_true, Bool.true_eq_false, false_implies, true_implies, Ty.dflt, reduceCtorEq, beq_iff_eq, bne_iff_ne, beq_eq_false_iff_ne, bne_eq_false_iff_eq, Bool.not_eq_true, Bool.not_eq_eq_eq_not, Bool.not_true, Bool.not_false, gt_iff_lt, ge_iff_le, Int.not_lt, Int.not_le]
      repeat' (first | with_reducible refine And.intro ?_ ?_ | intro _)
      all_goals first | rfl | omega | assumption | trivial | (exfalso; simp_all; done) | (exfalso; omega) | skip
  | succ z ih =>
    intro t th t0 ht hth hlt
    have hk1 : IntKind.i64.wrap (t + 1) = t + 1 := wrG (by omega) (by omega)
    rw [drop_at (xs := l) (i := t) (0 : Int) t0 (by omega), List.map_cons, ofA_cons] at hth
    have hq := Sl.words _ (getD_in (d := 0) (k := t.toNat) (l := l) (by omega))
    obtain ⟨v, hv⟩ : ∃ v, l.getD t.toNat 0 = v := ⟨_, rfl⟩
    rw [hv] at hq hth
    obtain ⟨w, hw⟩ : ∃ w, W.getD v.toNat [] = w := ⟨_, rfl⟩
    rw [hw] at hq hth
    obtain ⟨y, hy⟩ : ∃ y, w.getD k.toNat 0 = y := ⟨_, rfl⟩
    have hhas := hq.2.2.2 k.toNat (by omega)
    rw [hck, hy] at hhas
    rw [hy] at hth
    have hof : ofN [y] < W64 := of_lt _ _ (by decide)
    have hih := ih (t + 1) (th ||| ofN [y]) (by omega) (by omega) hth (or_lt hlt hof)
    have e3 := wrap_or hlt hof
    have c1 := d66 (m.getD c.toNat 0) y (hm.at _)
    rw [hhas] at c1
    have c2 := d67 [y] (by simp)
    have hwl : ((w.length : Int) != (C.length : Int)) = false := by rw [hq.2.2.1]; simp
    refine gets_vc spNc (fun k => [[1,3,8,84,85,86],[1,3,8,9,10,84,85,86,92,93,94],[1,3,8,9,10,11,12,13,84,85,86,92,93,94,103,104,105]].getD k []) (fun _ => []) 400 (.fork (.fork (.t (.t (.t .stop))) (.fork (.t (.t .stop)) (.fork (.t .stop) (.fork .stop (.hd 2))))) (.fork (.t .stop) (.fork .stop (.fork (.hd 1) (.hd 1))))) (V := vq23 g W M m ws o S a i num dn C l k c t th) hmG (fun G R => by kernel_rfl) ?_
    unfold vq23
    simp only [Ty.dflt, hk1, hv, hw, hy, take_len, List.drop_zero, List.take_length, Mi_getD, Mi_len, Nt_Mi, Int.toNat_natCast, Mi_set, Nat.zero_add, Nat.sub_zero, List.length_set, take_one, takeSn, List.take_zero, List.nil_append, List.length_append, List.length_cons, List.length_nil, hhas, hwl, Bool.not_true]
    simp only [e3]
    simp (disch := omega) only [wrG, sameK_iff, true_and, and_true, decide_eq_true_eq, decide_eq_false_iff_not, ne_eq, not_false_eq_true, Bool.false_eq_true, Bool.true_eq_false, false_implies, true_implies, Ty.dflt, reduceCtorEq, beq_iff_eq, bne_iff_ne, beq_eq_false_iff_ne, bne_eq_false_iff_eq, Bool.not_eq_true, Bool.not_eq_eq_eq_not, Bool.not_true, Bool.not_false, gt_iff_lt, ge_iff_le, Int.not_lt, Int.not_le]
    repeat' (first | with_reducible refine And.intro ?_ ?_ | intro _)
    all_goals first | rfl | omega | assumption | trivial | (exfalso; simp_all; done) | (exfalso; omega) | skip
def vq24 (g : Gr) (W : List (List Int)) (M : List Nat) (m : List Nat) (ws : List (List Int)) (o : Bool) (S : List Slt) (i : Int) (num : Int) (dn : Bool) (C : List Int) (a : Bool) (k : Int) (G : Nat → St → Prop) (R : D × List (Option Row) × List Row → Prop) : Prop := (decide (k < (↑C.length : Int)) = true → (0 : Int) ≤ k ∧ k < (↑C.length : Int) ∧ (0 : Int) ≤ i ∧ i < (↑ws.length : Int) ∧ SameK (KK n18 2) (KK n18 2) ∧ G 2 (stOf 207 [1, 3, 8, 9, 10, 11, 12, 13, 84, 85, 86, 92, 93, 94, 103, 104, 105] [D.ptr 0 0 0, D.ptr 1 0 0, D.v (Value.bool a), D.v (Value.int IntKind.i64 i), D.ptr 2 0 0, D.v (Value.int IntKind.i64 k), D.v (Value.int IntKind.i64 (C.getD k.toNat (Ty.int IntKind.i64).dflt)), D.v (Value.int IntKind.u64 (0 : Int)), D.sl false false ((Ty.int IntKind.i64).prod (Ty.bool.prod (Ty.int IntKind.i64).sl)) S, D.v (Value.int IntKind.i64 (↑S.length : Int)), D.v (Value.int IntKind.i64 i), D.sl false false (Ty.int IntKind.i64) C, D.v (Value.int IntKind.i64 (↑C.length : Int)), D.v (Value.int IntKind.i64 k), D.sl false false (Ty.int IntKind.i64) (ws.getD i.toNat (Ty.int IntKind.i64).sl.dflt), D.v (Value.int IntKind.i64 (↑(List.length (ws.getD i.toNat (Ty.int IntKind.i64).sl.dflt)) : Int)), D.v (Value.int IntKind.i64 (0 : Int))] [Slot.live (Row.box 68 [D.v (Value.int IntKind.i64 g.h), D.v (Value.int IntKind.i64 g.w), D.sl false false Ty.bool g.B, D.sl false false Ty.bool g.R, D.sl false false Ty.bool g.L, D.sl false false (Ty.int IntKind.i64).sl W, D.sl false false (Ty.int IntKind.u64) (Mi M)]), Slot.live (Row.box 71 [D.sl false false (Ty.int IntKind.u64) (Mi m), D.sl false false (Ty.int IntKind.i64).sl ws, D.v (Value.bool o)]), Slot.live (Row.box 86 [D.v (Value.int IntKind.i64 num), D.v (Value.bool dn), D.sl false false (Ty.int IntKind.i64) C])])) ∧ (decide (k < (↑C.length : Int)) = false → (a = true → (0 : Int) ≤ i ∧ i < (↑ws.length : Int) ∧ SameK (KK n18 0) (KK n18 0) ∧ G 0 (stOf 207 [1, 3, 8, 84, 85, 86] [D.ptr 0 0 0, D.ptr 1 0 0, D.v (Value.bool (decide ((↑(List.length (ws.getD i.toNat (Ty.int IntKind.i64).sl.dflt)) : Int) > (0 : Int)))), D.sl false false ((Ty.int IntKind.i64).prod (Ty.bool.prod (Ty.int IntKind.i64).sl)) S, D.v (Value.int IntKind.i64 (↑S.length : Int)), D.v (Value.int IntKind.i64 (IntKind.i64.wrap (i + (1 : Int))))] [Slot.live (Row.box 68 [D.v (Value.int IntKind.i64 g.h), D.v (Value.int IntKind.i64 g.w), D.sl false false Ty.bool g.B, D.sl false false Ty.bool g.R, D.sl false false Ty.bool g.L, D.sl false false (Ty.int IntKind.i64).sl W, D.sl false false (Ty.int IntKind.u64) (Mi M)]), Slot.live (Row.box 71 [D.sl false false (Ty.int IntKind.u64) (Mi m), D.sl false false (Ty.int IntKind.i64).sl ws, D.v (Value.bool o)])])) ∧ (a = false → SameK (KK n18 0) (KK n18 0) ∧ G 0 (stOf 207 [1, 3, 8, 84, 85, 86] [D.ptr 0 0 0, D.ptr 1 0 0, D.v (Value.bool false), D.sl false false ((Ty.int IntKind.i64).prod (Ty.bool.prod (Ty.int IntKind.i64).sl)) S, D.v (Value.int IntKind.i64 (↑S.length : Int)), D.v (Value.int IntKind.i64 (IntKind.i64.wrap (i + (1 : Int))))] [Slot.live (Row.box 68 [D.v (Value.int IntKind.i64 g.h), D.v (Value.int IntKind.i64 g.w), D.sl false false Ty.bool g.B, D.sl false false Ty.bool g.R, D.sl false false Ty.bool g.L, D.sl false false (Ty.int IntKind.i64).sl W, D.sl false false (Ty.int IntKind.u64) (Mi M)]), Slot.live (Row.box 71 [D.sl false false (Ty.int IntKind.u64) (Mi m), D.sl false false (Ty.int IntKind.i64).sl ws, D.v (Value.bool o)])])))
theorem e18b (g : Gr) (W : List (List Int)) (M : List Nat) (m : List Nat) (ws : List (List Int)) (o : Bool) (S : List Slt) (i : Int) (num : Int) (dn : Bool) (C : List Int) (l : List Int) (i0 : 0 ≤ i) (i1 : i < ws.length) (i2 : ws.length ≤ 1000) (hl : ws.getD i.toNat [] = l) (hm : Smalls m) (hM : Smalls M) (Sl : Slot18 W M m C l) (hG : ∀ j, m.getD j 0 &&& M.getD j 0 = m.getD j 0) (rest : Bool) (hx : ∀ a, o = (a && rest) → GetsK Try.prog Try.f18.results.toList [none] (KK n18) 0 (.v (.bool true), [], []) 0 (stOf 207 [1,3,8,84,85,86] [.ptr 0 0 0, .ptr 1 0 0, .v (.bool a), slS S, .v (.int .i64 S.length), .v (.int .i64 (i + 1))] [.live (.box 68 [.v (.int .i64 g.h), .v (.int .i64 g.w), .sl false false .bool g.B, .sl false false .bool g.R, .sl false false .bool g.L, slW W, slU M]), .live (.box 71 [slU m, slW ws, .v (.bool o)])])) (z : Nat) : ∀ (a : Bool) (k : Int), 0 ≤ k → k + z = C.length → o = (((a && (C.drop k.toNat).all (nzB m)) && decide ((l.length : Int) > 0)) && rest) → GetsK Try.prog Try.f18.results.toList [none] (KK n18) 0 (.v (.bool true), [], []) 1 (stOf 207 [1,3,8,9,10,84,85,86,92,93,94] [.ptr 0 0 0, .ptr 1 0 0, .v (.bool a), .v (.int .i64 i), .ptr 2 0 0, slS S, .v (.int .i64 S.length), .v (.int .i64 i), slI C, .v (.int .i64 C.length), .v (.int .i64 k)] [.live (.box 68 [.v (.int .i64 g.h), .v (.int .i64 g.w), .sl false false .bool g.B, .sl false false .bool g.R, .sl false false .bool g.L, slW W, slU M]), .live (.box 71 [slU m, slW ws, .v (.bool o)]), .live (.box 86 [.v (.int .i64 num), .v (.bool dn), slI C])]) := by
  have hs := Sl.short
  have hii : IntKind.i64.wrap (i + 1) = i + 1 := wrG (by omega) (by omega)
  induction z with
  | zero =>
    intro a k k0 hk hr
    rw [List.drop_eq_nil_of_le (by omega), List.all_nil, Bool.and_true] at hr
    refine gets_vc spNc (fun k => [[1,3,8,84,85,86],[1,3,8,9,10,84,85,86,92,93,94],[1,3,8,9,10,11,12,13,84,85,86,92,93,94,103,104,105]].getD k []) (fun _ => []) 400 (.fork (.hd 2) (.fork (.hd 0) (.hd 0))) (V := vq24 g W M m ws o S i num dn C a k) hmG (fun G R => by kernel_rfl) ?_
    unfold vq24
    simp only [Ty.dflt, hii, hl, take_len, List.drop_zero, List.take_length, Mi_getD, Mi_len, Nt_Mi, Int.toNat_natCast, Mi_set, Nat.zero_add, Nat.sub_zero, List.length_set, take_one, takeSn, List.take_zero, List.nil_append, List.length_append, List.length_cons, List.length_nil]
    cases a with
    | false =>
      have h1 := hx false (by rw [hr]; simp)
      simp (disch := omega) only [wrG, sameK_iff, true_and, and_true, decide_eq_true_eq, decide_eq_false_iff_not, ne_eq, not_false_eq_true, Bool.false_eq_true, Bool.true_eq_false, false_implies, true_implies, Ty.dflt, reduceCtorEq, beq_iff_eq, bne_iff_ne, beq_eq_false_iff_ne, bne_eq_false_iff_eq, Bool.not_eq_true, Bool.not_eq_eq_eq_not, Bool.not_true, Bool.not_false, gt_iff_lt, ge_iff_le, Int.not_lt, Int.not_le]
      repeat' (first | with_reducible refine And.intro ?_ ?_ | intro _)
      all_goals first | rfl | omega | assumption | trivial | (exfalso; simp_all; done) | (exfalso; omega) | skip
    | true =>
      rw [Bool.true_and] at hr
      have h1 := hx _ hr
      simp only [gt_iff_lt] at h1
      simp (disch := omega) only [wrG, sameK_iff, true_and, and_true, decide_eq_true_eq, decide_eq_false_iff_not, ne_eq, not_false_eq_true, Bool.false_eq_true, Bool.true_eq_false, false_implies, true_implies, Ty.dflt, reduceCtorEq, beq_iff_eq, bne_iff_ne, beq_eq_false_iff_ne, bne_eq_false_iff_eq, Bool.not_eq_true, Bool.not_eq_eq_eq_not, Bool.not_true, Bool.not_false, gt_iff_lt, ge_iff_le, Int.not_lt, Int.not_le]
      repeat' (first | with_reducible refine And.intro ?_ ?_ | intro _)
      all_goals first | rfl | omega | assumption | trivial | (exfalso; simp_all; done) | (exfalso; omega) | skip
  | succ z ih =>
    intro a k k0 hk hr
    rw [drop_at (xs := C) (i := k) (0 : Int) k0 (by omega), List.all_cons, ← Bool.and_assoc] at hr
    have h1 := ih (a && nzB m (C.getD k.toNat 0)) (k + 1) (by omega) (by omega) hr
    have h2 := e18c g W M m ws o S a i num dn C l k _ k0 (by omega) rfl hm hM Sl hG h1 l.length 0 0 (by omega) (by omega) rfl (by decide)
    refine gets_vc spNc (fun k => [[1,3,8,84,85,86],[1,3,8,9,10,84,85,86,92,93,94],[1,3,8,9,10,11,12,13,84,85,86,92,93,94,103,104,105]].getD k []) (fun _ => []) 400 (.fork (.hd 2) (.fork (.hd 0) (.hd 0))) (V := vq24 g W M m ws o S i num dn C a k) hmG (fun G R => by kernel_rfl) ?_
    unfold vq24
    simp only [Ty.dflt, hl, take_len, List.drop_zero, List.take_length, Mi_getD, Mi_len, Nt_Mi, Int.toNat_natCast, Mi_set, Nat.zero_add, Nat.sub_zero, List.length_set, take_one, takeSn, List.take_zero, List.nil_append, List.length_append, List.length_cons, List.length_nil]
    simp (disch := omega) only [wrG, sameK_iff, true_and, and_true, decide_eq_true_eq, decide_eq_false_iff_not, ne_eq, not_false_eq_true, Bool.false_eq_true, Bool.true_eq_false, false_implies, true_implies, Ty.dflt, reduceCtorEq, beq_iff_eq, bne_iff_ne, beq_eq_false_iff_ne, bne_eq_false_iff_eq, Bool.not_eq_true, Bool.not_eq_eq_eq_not, Bool.not_true, Bool.not_false, gt_iff_lt, ge_iff_le, Int.not_lt, Int.not_le]
    repeat' (first | with_reducible refine And.intro ?_ ?_ | intro _)
    all_goals first | rfl | omega | assumption | trivial | (exfalso; simp_all; done) | (exfalso; omega) | skip
theorem e18a (g : Gr) (W : List (List Int)) (M : List Nat) (m : List Nat) (ws : List (List Int)) (o : Bool) (S : List Slt) (hS : S.length ≤ 1000) (hws : ws.length = S.length) (hm : Smalls m) (hM : Smalls M) (Sl : ∀ j : Nat, j < S.length → Slot18 W M m (sAtN S j).2.2 (ws.getD j [])) (hG : ∀ j, m.getD j 0 &&& M.getD j 0 = m.getD j 0) (z : Nat) : ∀ (a : Bool) (i : Int), 0 ≤ i → i + z = S.length → o = (a && restO S m ws z i) → GetsK Try.prog Try.f18.results.toList [none] (KK n18) 0 (.v (.bool true), [], []) 0 (stOf 207 [1,3,8,84,85,86] [.ptr 0 0 0, .ptr 1 0 0, .v (.bool a), slS S, .v (.int .i64 S.length), .v (.int .i64 i)] [.live (.box 68 [.v (.int .i64 g.h), .v (.int .i64 g.w), .sl false false .bool g.B, .sl false false .bool g.R, .sl false false .bool g.L, slW W, slU M]), .live (.box 71 [slU m, slW ws, .v (.bool o)])]) := by
  induction z with
  | zero =>
    intro a i i0 hi hr
    have hr : a = o := by rw [hr]; simp [restO]
    rw [← hr]
    have hb : (a == a) = true := by simp
    refine gets_vc spNc (fun k => [[1,3,8,84,85,86],[1,3,8,9,10,84,85,86,92,93,94],[1,3,8,9,10,11,12,13,84,85,86,92,93,94,103,104,105]].getD k []) (fun _ => []) 400 (.fork (.hd 1) .stop) (V := fun G R => (decide (i < (↑S.length : Int)) = true → (0 : Int) ≤ i ∧ i < (↑S.length : Int) ∧ SameK (KK n18 1) (KK n18 1) ∧ G 1 (stOf 207 [1, 3, 8, 9, 10, 84, 85, 86, 92, 93, 94] [D.ptr 0 0 0, D.ptr 1 0 0, D.v (Value.bool a), D.v (Value.int IntKind.i64 i), D.ptr 2 0 0, D.sl false false ((Ty.int IntKind.i64).prod (Ty.bool.prod (Ty.int IntKind.i64).sl)) S, D.v (Value.int IntKind.i64 (↑S.length : Int)), D.v (Value.int IntKind.i64 i), D.sl false false (Ty.int IntKind.i64) (S.getD i.toNat ((Ty.int IntKind.i64).prod (Ty.bool.prod (Ty.int IntKind.i64).sl)).dflt).snd.snd, D.v (Value.int IntKind.i64 (↑(List.length (S.getD i.toNat ((Ty.int IntKind.i64).prod (Ty.bool.prod (Ty.int IntKind.i64).sl)).dflt).snd.snd) : Int)), D.v (Value.int IntKind.i64 (0 : Int))] [Slot.live (Row.box 68 [D.v (Value.int IntKind.i64 g.h), D.v (Value.int IntKind.i64 g.w), D.sl false false Ty.bool g.B, D.sl false false Ty.bool g.R, D.sl false false Ty.bool g.L, D.sl false false (Ty.int IntKind.i64).sl W, D.sl false false (Ty.int IntKind.u64) (Mi M)]), Slot.live (Row.box 71 [D.sl false false (Ty.int IntKind.u64) (Mi m), D.sl false false (Ty.int IntKind.i64).sl ws, D.v (Value.bool a)]), Slot.live (Row.box 86 [D.v (Value.int IntKind.i64 (S.getD i.toNat ((Ty.int IntKind.i64).prod (Ty.bool.prod (Ty.int IntKind.i64).sl)).dflt).fst), D.v (Value.bool (S.getD i.toNat ((Ty.int IntKind.i64).prod (Ty.bool.prod (Ty.int IntKind.i64).sl)).dflt).snd.fst), D.sl false false (Ty.int IntKind.i64) (S.getD i.toNat ((Ty.int IntKind.i64).prod (Ty.bool.prod (Ty.int IntKind.i64).sl)).dflt).snd.snd])])) ∧ (decide (i < (↑S.length : Int)) = false → R (D.v (Value.bool (a == a)), [], []))) hmG (fun G R => by kernel_rfl) ?_
    simp only [hb]
    simp (disch := omega) only [wrG, sameK_iff, true_and, and_true, decide_eq_true_eq, decide_eq_false_iff_not, ne_eq, not_false_eq_true, Bool.false_eq_true, Bool.true_eq_false, false_implies, true_implies, Ty.dflt, reduceCtorEq, beq_iff_eq, bne_iff_ne, beq_eq_false_iff_ne, bne_eq_false_iff_eq, Bool.not_eq_true, Bool.not_eq_eq_eq_not, Bool.not_true, Bool.not_false, gt_iff_lt, ge_iff_le, Int.not_lt, Int.not_le]
    repeat' (first | with_reducible refine And.intro ?_ ?_ | intro _)
    all_goals first | rfl | omega | assumption | trivial | (exfalso; simp_all; done) | (exfalso; omega) | skip
  | succ z ih =>
    intro a i i0 hi hr
    have hi1 : i.toNat < S.length := by omega
    have hsl := Sl i.toNat hi1
    unfold sAtN at hsl
    obtain ⟨s, hs⟩ : ∃ s, S.getD i.toNat (0, false, []) = s := ⟨_, rfl⟩
    rw [hs] at hsl
    simp only [restO, slotAt, hs] at hr
    have h2 := e18b g W M m ws o S i s.1 s.2.1 s.2.2 _ i0 (by omega) (by omega) rfl hm hM hsl hG (restO S m ws z (i + 1)) (fun a' h' => ih a' (i + 1) (by omega) (by omega) h') s.2.2.length a 0 (by omega) (by omega) (by
      rw [hr]
      simp only [show (0 : Int).toNat = 0 from rfl, List.drop_zero]
      cases a <;> cases (s.2.2.all (nzB m)) <;> simp)
    refine gets_vc spNc (fun k => [[1,3,8,84,85,86],[1,3,8,9,10,84,85,86,92,93,94],[1,3,8,9,10,11,12,13,84,85,86,92,93,94,103,104,105]].getD k []) (fun _ => []) 400 (.fork (.hd 1) .stop) (V := fun G R => (decide (i < (↑S.length : Int)) = true → (0 : Int) ≤ i ∧ i < (↑S.length : Int) ∧ SameK (KK n18 1) (KK n18 1) ∧ G 1 (stOf 207 [1, 3, 8, 9, 10, 84, 85, 86, 92, 93, 94] [D.ptr 0 0 0, D.ptr 1 0 0, D.v (Value.bool a), D.v (Value.int IntKind.i64 i), D.ptr 2 0 0, D.sl false false ((Ty.int IntKind.i64).prod (Ty.bool.prod (Ty.int IntKind.i64).sl)) S, D.v (Value.int IntKind.i64 (↑S.length : Int)), D.v (Value.int IntKind.i64 i), D.sl false false (Ty.int IntKind.i64) (S.getD i.toNat ((Ty.int IntKind.i64).prod (Ty.bool.prod (Ty.int IntKind.i64).sl)).dflt).snd.snd, D.v (Value.int IntKind.i64 (↑(List.length (S.getD i.toNat ((Ty.int IntKind.i64).prod (Ty.bool.prod (Ty.int IntKind.i64).sl)).dflt).snd.snd) : Int)), D.v (Value.int IntKind.i64 (0 : Int))] [Slot.live (Row.box 68 [D.v (Value.int IntKind.i64 g.h), D.v (Value.int IntKind.i64 g.w), D.sl false false Ty.bool g.B, D.sl false false Ty.bool g.R, D.sl false false Ty.bool g.L, D.sl false false (Ty.int IntKind.i64).sl W, D.sl false false (Ty.int IntKind.u64) (Mi M)]), Slot.live (Row.box 71 [D.sl false false (Ty.int IntKind.u64) (Mi m), D.sl false false (Ty.int IntKind.i64).sl ws, D.v (Value.bool o)]), Slot.live (Row.box 86 [D.v (Value.int IntKind.i64 (S.getD i.toNat ((Ty.int IntKind.i64).prod (Ty.bool.prod (Ty.int IntKind.i64).sl)).dflt).fst), D.v (Value.bool (S.getD i.toNat ((Ty.int IntKind.i64).prod (Ty.bool.prod (Ty.int IntKind.i64).sl)).dflt).snd.fst), D.sl false false (Ty.int IntKind.i64) (S.getD i.toNat ((Ty.int IntKind.i64).prod (Ty.bool.prod (Ty.int IntKind.i64).sl)).dflt).snd.snd])])) ∧ (decide (i < (↑S.length : Int)) = false → R (D.v (Value.bool (a == o)), [], []))) hmG (fun G R => by kernel_rfl) ?_
    simp only [Ty.dflt, hs, take_len, List.drop_zero, List.take_length, Mi_getD, Mi_len, Nt_Mi, Int.toNat_natCast, Mi_set, Nat.zero_add, Nat.sub_zero, List.length_set, take_one, takeSn, List.take_zero, List.nil_append, List.length_append, List.length_cons, List.length_nil]
    simp (disch := omega) only [wrG, sameK_iff, true_and, and_true, decide_eq_true_eq, decide_eq_false_iff_not, ne_eq, not_false_eq_true, Bool.false_eq_true, Bool.true_eq_false, false_implies, true_implies, Ty.dflt, reduceCtorEq, beq_iff_eq, bne_iff_ne, beq_eq_false_iff_ne, bne_eq_false_iff_eq, Bool.not_eq_true, Bool.not_eq_eq_eq_not, Bool.not_true, Bool.not_false, gt_iff_lt, ge_iff_le, Int.not_lt, Int.not_le]
    repeat' (first | with_reducible refine And.intro ?_ ?_ | intro _)
    all_goals first | rfl | omega | assumption | trivial | (exfalso; simp_all; done) | (exfalso; omega) | skip
theorem d18 (g : Gr) (W : List (List Int)) (M : List Nat) (F : (Pr.mk g W M).fits) : Con Try.prog 18 [] [.agg [.v (.int .i64 g.h), .v (.int .i64 g.w), .sl false false .bool g.B, .sl false false .bool g.R, .sl false false .bool g.L, slW W, slU M]] (.v (.bool true)) [] [] := by
  refine con_vc (how := [none]) (c := n18) (K := (KK n18)) spNc (fun k => [[1,3,8,84,85,86],[1,3,8,9,10,84,85,86,92,93,94],[1,3,8,9,10,11,12,13,84,85,86,92,93,94,103,104,105]].getD k []) (fun _ => []) 400 (.fork .stop (.fork (.fork (.fork .stop .stop) (.f .stop)) (.fork (.t (.t (.t .stop))) (.fork (.t (.t .stop)) (.fork (.t .stop) (.fork .stop (.hd 0))))))) (V := fun G R => Con Try.prog 57 [] [] (D.v (Value.bool true)) [] [] ∧ ((!true) = true → R (D.v (Value.bool false), [], [])) ∧ ((!true) = false → Con Try.prog 59 [] [D.agg [D.v (Value.int IntKind.i64 (Pr.mk g W (Nt (Mi M))).g.h), D.v (Value.int IntKind.i64 (Pr.mk g W (Nt (Mi M))).g.w), D.sl false false Ty.bool (Pr.mk g W (Nt (Mi M))).g.B, D.sl false false Ty.bool (Pr.mk g W (Nt (Mi M))).g.R, D.sl false false Ty.bool (Pr.mk g W (Nt (Mi M))).g.L, D.sl false false (Ty.int IntKind.i64).sl (Pr.mk g W (Nt (Mi M))).W, D.sl false false (Ty.int IntKind.u64) (Mi (Pr.mk g W (Nt (Mi M))).M)]] (D.tup [D.agg [D.sl false false (Ty.int IntKind.u64) (Mi (narM (Pr.mk g W (Nt (Mi M))))), D.sl false false (Ty.int IntKind.i64).sl (narW (Pr.mk g W (Nt (Mi M)))), D.v (Value.bool (narO (Pr.mk g W (Nt (Mi M)))))], D.v (Value.int IntKind.i64 (checkP (Pr.mk g W (Nt (Mi M)))))]) [] [] ∧ Value.int IntKind.i64 g.h = Value.int IntKind.i64 (Pr.mk g W (Nt (Mi M))).g.h ∧ Value.int IntKind.i64 g.w = Value.int IntKind.i64 (Pr.mk g W (Nt (Mi M))).g.w ∧ g.B = (Pr.mk g W (Nt (Mi M))).g.B ∧ g.R = (Pr.mk g W (Nt (Mi M))).g.R ∧ g.L = (Pr.mk g W (Nt (Mi M))).g.L ∧ W = (Pr.mk g W (Nt (Mi M))).W ∧ Mi M = Mi (Pr.mk g W (Nt (Mi M))).M ∧ ((checkP (Pr.mk g W (Nt (Mi M))) != (0 : Int)) = true → ((IntKind.i64.wrap ((↑(Mi (narM (Pr.mk g W (Nt (Mi M))))).length : Int) + (↑(narW (Pr.mk g W (Nt (Mi M)))).length : Int)) == (0 : Int)) = true → ((!narO (Pr.mk g W (Nt (Mi M)))) = true → Con Try.prog 62 [] [D.agg [D.v (Value.int IntKind.i64 (Pr.mk g W (Nt (Mi M))).g.h), D.v (Value.int IntKind.i64 (Pr.mk g W (Nt (Mi M))).g.w), D.sl false false Ty.bool (Pr.mk g W (Nt (Mi M))).g.B, D.sl false false Ty.bool (Pr.mk g W (Nt (Mi M))).g.R, D.sl false false Ty.bool (Pr.mk g W (Nt (Mi M))).g.L, D.sl false false (Ty.int IntKind.i64).sl (Pr.mk g W (Nt (Mi M))).W, D.sl false false (Ty.int IntKind.u64) (Mi (Pr.mk g W (Nt (Mi M))).M)]] (D.v (Value.int IntKind.i64 (checkP (Pr.mk g W (Nt (Mi M)))))) [] [] ∧ Value.int IntKind.i64 g.h = Value.int IntKind.i64 (Pr.mk g W (Nt (Mi M))).g.h ∧ Value.int IntKind.i64 g.w = Value.int IntKind.i64 (Pr.mk g W (Nt (Mi M))).g.w ∧ g.B = (Pr.mk g W (Nt (Mi M))).g.B ∧ g.R = (Pr.mk g W (Nt (Mi M))).g.R ∧ g.L = (Pr.mk g W (Nt (Mi M))).g.L ∧ W = (Pr.mk g W (Nt (Mi M))).W ∧ Mi M = Mi (Pr.mk g W (Nt (Mi M))).M ∧ R (D.v (Value.bool (checkP (Pr.mk g W (Nt (Mi M))) == checkP (Pr.mk g W (Nt (Mi M))))), [], [])) ∧ ((!narO (Pr.mk g W (Nt (Mi M)))) = false → R (D.v (Value.bool false), [], []))) ∧ ((IntKind.i64.wrap ((↑(Mi (narM (Pr.mk g W (Nt (Mi M))))).length : Int) + (↑(narW (Pr.mk g W (Nt (Mi M)))).length : Int)) == (0 : Int)) = false → false = false ∧ R (D.v (Value.bool false), [], []))) ∧ ((checkP (Pr.mk g W (Nt (Mi M))) != (0 : Int)) = false → Con Try.prog 58 [] [D.agg [D.v (Value.int IntKind.i64 (Pr.mk g W (Nt (Mi M))).g.h), D.v (Value.int IntKind.i64 (Pr.mk g W (Nt (Mi M))).g.w), D.sl false false Ty.bool (Pr.mk g W (Nt (Mi M))).g.B, D.sl false false Ty.bool (Pr.mk g W (Nt (Mi M))).g.R, D.sl false false Ty.bool (Pr.mk g W (Nt (Mi M))).g.L, D.sl false false (Ty.int IntKind.i64).sl (Pr.mk g W (Nt (Mi M))).W, D.sl false false (Ty.int IntKind.u64) (Mi (Pr.mk g W (Nt (Mi M))).M)]] (D.agg [D.v (Value.int IntKind.i64 (Pr.mk g W (Nt (Mi M))).g.h), D.v (Value.int IntKind.i64 (Pr.mk g W (Nt (Mi M))).g.w), D.own 0 0 (Pr.mk g W (Nt (Mi M))).g.B.length none, D.own 1 0 (Pr.mk g W (Nt (Mi M))).g.R.length none, D.own 2 0 (Pr.mk g W (Nt (Mi M))).g.L.length none, D.own 3 0 (Pr.mk g W (Nt (Mi M))).W.length none, D.own 4 0 (Pr.mk g W (Nt (Mi M))).M.length none]) [] [Row.data 4 Ty.bool (Pr.mk g W (Nt (Mi M))).g.B, Row.data 4 Ty.bool (Pr.mk g W (Nt (Mi M))).g.R, Row.data 4 Ty.bool (Pr.mk g W (Nt (Mi M))).g.L, Row.data 46 (Ty.int IntKind.i64).sl (Pr.mk g W (Nt (Mi M))).W, Row.data 80 (Ty.int IntKind.u64) (Mi (Pr.mk g W (Nt (Mi M))).M)] ∧ Value.int IntKind.i64 g.h = Value.int IntKind.i64 (Pr.mk g W (Nt (Mi M))).g.h ∧ Value.int IntKind.i64 g.w = Value.int IntKind.i64 (Pr.mk g W (Nt (Mi M))).g.w ∧ g.B = (Pr.mk g W (Nt (Mi M))).g.B ∧ g.R = (Pr.mk g W (Nt (Mi M))).g.R ∧ g.L = (Pr.mk g W (Nt (Mi M))).g.L ∧ W = (Pr.mk g W (Nt (Mi M))).W ∧ Mi M = Mi (Pr.mk g W (Nt (Mi M))).M ∧ roomy Try.prog 80 (0 + (Mi (narM (Pr.mk g W (Nt (Mi M))))).length) ∧ Con Try.prog 59 [] [D.agg [D.v (Value.int IntKind.i64 (Pr.mk (Pr.mk g W (Nt (Mi M))).g (List.take (Pr.mk g W (Nt (Mi M))).W.length (List.drop 0 (Pr.mk g W (Nt (Mi M))).W)) (Nt (List.take (0 + (Mi (narM (Pr.mk g W (Nt (Mi M))))).length) (List.drop 0 (List.take 0 (List.drop 0 []) ++ Mi (narM (Pr.mk g W (Nt (Mi M))))))))).g.h), D.v (Value.int IntKind.i64 (Pr.mk (Pr.mk g W (Nt (Mi M))).g (List.take (Pr.mk g W (Nt (Mi M))).W.length (List.drop 0 (Pr.mk g W (Nt (Mi M))).W)) (Nt (List.take (0 + (Mi (narM (Pr.mk g W (Nt (Mi M))))).length) (List.drop 0 (List.take 0 (List.drop 0 []) ++ Mi (narM (Pr.mk g W (Nt (Mi M))))))))).g.w), D.sl false false Ty.bool (Pr.mk (Pr.mk g W (Nt (Mi M))).g (List.take (Pr.mk g W (Nt (Mi M))).W.length (List.drop 0 (Pr.mk g W (Nt (Mi M))).W)) (Nt (List.take (0 + (Mi (narM (Pr.mk g W (Nt (Mi M))))).length) (List.drop 0 (List.take 0 (List.drop 0 []) ++ Mi (narM (Pr.mk g W (Nt (Mi M))))))))).g.B, D.sl false false Ty.bool (Pr.mk (Pr.mk g W (Nt (Mi M))).g (List.take (Pr.mk g W (Nt (Mi M))).W.length (List.drop 0 (Pr.mk g W (Nt (Mi M))).W)) (Nt (List.take (0 + (Mi (narM (Pr.mk g W (Nt (Mi M))))).length) (List.drop 0 (List.take 0 (List.drop 0 []) ++ Mi (narM (Pr.mk g W (Nt (Mi M))))))))).g.R, D.sl false false Ty.bool (Pr.mk (Pr.mk g W (Nt (Mi M))).g (List.take (Pr.mk g W (Nt (Mi M))).W.length (List.drop 0 (Pr.mk g W (Nt (Mi M))).W)) (Nt (List.take (0 + (Mi (narM (Pr.mk g W (Nt (Mi M))))).length) (List.drop 0 (List.take 0 (List.drop 0 []) ++ Mi (narM (Pr.mk g W (Nt (Mi M))))))))).g.L, D.sl false false (Ty.int IntKind.i64).sl (Pr.mk (Pr.mk g W (Nt (Mi M))).g (List.take (Pr.mk g W (Nt (Mi M))).W.length (List.drop 0 (Pr.mk g W (Nt (Mi M))).W)) (Nt (List.take (0 + (Mi (narM (Pr.mk g W (Nt (Mi M))))).length) (List.drop 0 (List.take 0 (List.drop 0 []) ++ Mi (narM (Pr.mk g W (Nt (Mi M))))))))).W, D.sl false false (Ty.int IntKind.u64) (Mi (Pr.mk (Pr.mk g W (Nt (Mi M))).g (List.take (Pr.mk g W (Nt (Mi M))).W.length (List.drop 0 (Pr.mk g W (Nt (Mi M))).W)) (Nt (List.take (0 + (Mi (narM (Pr.mk g W (Nt (Mi M))))).length) (List.drop 0 (List.take 0 (List.drop 0 []) ++ Mi (narM (Pr.mk g W (Nt (Mi M))))))))).M)]] (D.tup [D.agg [D.sl false false (Ty.int IntKind.u64) (Mi (narM (Pr.mk (Pr.mk g W (Nt (Mi M))).g (List.take (Pr.mk g W (Nt (Mi M))).W.length (List.drop 0 (Pr.mk g W (Nt (Mi M))).W)) (Nt (List.take (0 + (Mi (narM (Pr.mk g W (Nt (Mi M))))).length) (List.drop 0 (List.take 0 (List.drop 0 []) ++ Mi (narM (Pr.mk g W (Nt (Mi M))))))))))), D.sl false false (Ty.int IntKind.i64).sl (narW (Pr.mk (Pr.mk g W (Nt (Mi M))).g (List.take (Pr.mk g W (Nt (Mi M))).W.length (List.drop 0 (Pr.mk g W (Nt (Mi M))).W)) (Nt (List.take (0 + (Mi (narM (Pr.mk g W (Nt (Mi M))))).length) (List.drop 0 (List.take 0 (List.drop 0 []) ++ Mi (narM (Pr.mk g W (Nt (Mi M)))))))))), D.v (Value.bool (narO (Pr.mk (Pr.mk g W (Nt (Mi M))).g (List.take (Pr.mk g W (Nt (Mi M))).W.length (List.drop 0 (Pr.mk g W (Nt (Mi M))).W)) (Nt (List.take (0 + (Mi (narM (Pr.mk g W (Nt (Mi M))))).length) (List.drop 0 (List.take 0 (List.drop 0 []) ++ Mi (narM (Pr.mk g W (Nt (Mi M)))))))))))], D.v (Value.int IntKind.i64 (checkP (Pr.mk (Pr.mk g W (Nt (Mi M))).g (List.take (Pr.mk g W (Nt (Mi M))).W.length (List.drop 0 (Pr.mk g W (Nt (Mi M))).W)) (Nt (List.take (0 + (Mi (narM (Pr.mk g W (Nt (Mi M))))).length) (List.drop 0 (List.take 0 (List.drop 0 []) ++ Mi (narM (Pr.mk g W (Nt (Mi M)))))))))))]) [] [] ∧ Value.int IntKind.i64 (Pr.mk g W (Nt (Mi M))).g.h = Value.int IntKind.i64 (Pr.mk (Pr.mk g W (Nt (Mi M))).g (List.take (Pr.mk g W (Nt (Mi M))).W.length (List.drop 0 (Pr.mk g W (Nt (Mi M))).W)) (Nt (List.take (0 + (Mi (narM (Pr.mk g W (Nt (Mi M))))).length) (List.drop 0 (List.take 0 (List.drop 0 []) ++ Mi (narM (Pr.mk g W (Nt (Mi M))))))))).g.h ∧ Value.int IntKind.i64 (Pr.mk g W (Nt (Mi M))).g.w = Value.int IntKind.i64 (Pr.mk (Pr.mk g W (Nt (Mi M))).g (List.take (Pr.mk g W (Nt (Mi M))).W.length (List.drop 0 (Pr.mk g W (Nt (Mi M))).W)) (Nt (List.take (0 + (Mi (narM (Pr.mk g W (Nt (Mi M))))).length) (List.drop 0 (List.take 0 (List.drop 0 []) ++ Mi (narM (Pr.mk g W (Nt (Mi M))))))))).g.w ∧ List.take (Pr.mk g W (Nt (Mi M))).g.B.length (List.drop 0 (Pr.mk g W (Nt (Mi M))).g.B) = (Pr.mk (Pr.mk g W (Nt (Mi M))).g (List.take (Pr.mk g W (Nt (Mi M))).W.length (List.drop 0 (Pr.mk g W (Nt (Mi M))).W)) (Nt (List.take (0 + (Mi (narM (Pr.mk g W (Nt (Mi M))))).length) (List.drop 0 (List.take 0 (List.drop 0 []) ++ Mi (narM (Pr.mk g W (Nt (Mi M))))))))).g.B ∧ List.take (Pr.mk g W (Nt (Mi M))).g.R.length (List.drop 0 (Pr.mk g W (Nt (Mi M))).g.R) = (Pr.mk (Pr.mk g W (Nt (Mi M))).g (List.take (Pr.mk g W (Nt (Mi M))).W.length (List.drop 0 (Pr.mk g W (Nt (Mi M))).W)) (Nt (List.take (0 + (Mi (narM (Pr.mk g W (Nt (Mi M))))).length) (List.drop 0 (List.take 0 (List.drop 0 []) ++ Mi (narM (Pr.mk g W (Nt (Mi M))))))))).g.R ∧ List.take (Pr.mk g W (Nt (Mi M))).g.L.length (List.drop 0 (Pr.mk g W (Nt (Mi M))).g.L) = (Pr.mk (Pr.mk g W (Nt (Mi M))).g (List.take (Pr.mk g W (Nt (Mi M))).W.length (List.drop 0 (Pr.mk g W (Nt (Mi M))).W)) (Nt (List.take (0 + (Mi (narM (Pr.mk g W (Nt (Mi M))))).length) (List.drop 0 (List.take 0 (List.drop 0 []) ++ Mi (narM (Pr.mk g W (Nt (Mi M))))))))).g.L ∧ List.take (Pr.mk g W (Nt (Mi M))).W.length (List.drop 0 (Pr.mk g W (Nt (Mi M))).W) = (Pr.mk (Pr.mk g W (Nt (Mi M))).g (List.take (Pr.mk g W (Nt (Mi M))).W.length (List.drop 0 (Pr.mk g W (Nt (Mi M))).W)) (Nt (List.take (0 + (Mi (narM (Pr.mk g W (Nt (Mi M))))).length) (List.drop 0 (List.take 0 (List.drop 0 []) ++ Mi (narM (Pr.mk g W (Nt (Mi M))))))))).W ∧ List.take (0 + (Mi (narM (Pr.mk g W (Nt (Mi M))))).length) (List.drop 0 (List.take 0 (List.drop 0 []) ++ Mi (narM (Pr.mk g W (Nt (Mi M)))))) = Mi (Pr.mk (Pr.mk g W (Nt (Mi M))).g (List.take (Pr.mk g W (Nt (Mi M))).W.length (List.drop 0 (Pr.mk g W (Nt (Mi M))).W)) (Nt (List.take (0 + (Mi (narM (Pr.mk g W (Nt (Mi M))))).length) (List.drop 0 (List.take 0 (List.drop 0 []) ++ Mi (narM (Pr.mk g W (Nt (Mi M))))))))).M ∧ Con Try.prog 65 [] [D.agg [D.v (Value.int IntKind.i64 g.h), D.v (Value.int IntKind.i64 g.w), D.sl false false Ty.bool g.B, D.sl false false Ty.bool g.R, D.sl false false Ty.bool g.L]] (D.sl false false ((Ty.int IntKind.i64).prod (Ty.bool.prod (Ty.int IntKind.i64).sl)) (slotsF g)) [] [] ∧ Value.int IntKind.i64 g.h = Value.int IntKind.i64 g.h ∧ Value.int IntKind.i64 g.w = Value.int IntKind.i64 g.w ∧ g.B = g.B ∧ g.R = g.R ∧ g.L = g.L ∧ ((checkP (Pr.mk (Pr.mk g W (Nt (Mi M))).g (List.take (Pr.mk g W (Nt (Mi M))).W.length (List.drop 0 (Pr.mk g W (Nt (Mi M))).W)) (Nt (List.take (0 + (Mi (narM (Pr.mk g W (Nt (Mi M))))).length) (List.drop 0 (List.take 0 (List.drop 0 []) ++ Mi (narM (Pr.mk g W (Nt (Mi M))))))))) != (0 : Int)) = true → true = true ∧ true = true ∧ true = true ∧ R (D.v (Value.bool false), [], [])) ∧ ((checkP (Pr.mk (Pr.mk g W (Nt (Mi M))).g (List.take (Pr.mk g W (Nt (Mi M))).W.length (List.drop 0 (Pr.mk g W (Nt (Mi M))).W)) (Nt (List.take (0 + (Mi (narM (Pr.mk g W (Nt (Mi M))))).length) (List.drop 0 (List.take 0 (List.drop 0 []) ++ Mi (narM (Pr.mk g W (Nt (Mi M))))))))) != (0 : Int)) = false → Con Try.prog 61 [] [D.agg [D.sl false false (Ty.int IntKind.u64) (Mi (narM (Pr.mk g W (Nt (Mi M))))), D.sl false false (Ty.int IntKind.i64).sl (narW (Pr.mk g W (Nt (Mi M)))), D.v (Value.bool (narO (Pr.mk g W (Nt (Mi M)))))], D.agg [D.sl false false (Ty.int IntKind.u64) (Mi (narM (Pr.mk (Pr.mk g W (Nt (Mi M))).g (List.take (Pr.mk g W (Nt (Mi M))).W.length (List.drop 0 (Pr.mk g W (Nt (Mi M))).W)) (Nt (List.take (0 + (Mi (narM (Pr.mk g W (Nt (Mi M))))).length) (List.drop 0 (List.take 0 (List.drop 0 []) ++ Mi (narM (Pr.mk g W (Nt (Mi M))))))))))), D.sl false false (Ty.int IntKind.i64).sl (narW (Pr.mk (Pr.mk g W (Nt (Mi M))).g (List.take (Pr.mk g W (Nt (Mi M))).W.length (List.drop 0 (Pr.mk g W (Nt (Mi M))).W)) (Nt (List.take (0 + (Mi (narM (Pr.mk g W (Nt (Mi M))))).length) (List.drop 0 (List.take 0 (List.drop 0 []) ++ Mi (narM (Pr.mk g W (Nt (Mi M)))))))))), D.v (Value.bool (narO (Pr.mk (Pr.mk g W (Nt (Mi M))).g (List.take (Pr.mk g W (Nt (Mi M))).W.length (List.drop 0 (Pr.mk g W (Nt (Mi M))).W)) (Nt (List.take (0 + (Mi (narM (Pr.mk g W (Nt (Mi M))))).length) (List.drop 0 (List.take 0 (List.drop 0 []) ++ Mi (narM (Pr.mk g W (Nt (Mi M)))))))))))]] (D.v (Value.bool (decide (Mi (narM (Pr.mk g W (Nt (Mi M)))) = Mi (narM (Pr.mk (Pr.mk g W (Nt (Mi M))).g (List.take (Pr.mk g W (Nt (Mi M))).W.length (List.drop 0 (Pr.mk g W (Nt (Mi M))).W)) (Nt (List.take (0 + (Mi (narM (Pr.mk g W (Nt (Mi M))))).length) (List.drop 0 (List.take 0 (List.drop 0 []) ++ Mi (narM (Pr.mk g W (Nt (Mi M)))))))))) ∧ narW (Pr.mk g W (Nt (Mi M))) = narW (Pr.mk (Pr.mk g W (Nt (Mi M))).g (List.take (Pr.mk g W (Nt (Mi M))).W.length (List.drop 0 (Pr.mk g W (Nt (Mi M))).W)) (Nt (List.take (0 + (Mi (narM (Pr.mk g W (Nt (Mi M))))).length) (List.drop 0 (List.take 0 (List.drop 0 []) ++ Mi (narM (Pr.mk g W (Nt (Mi M))))))))) ∧ narO (Pr.mk g W (Nt (Mi M))) = narO (Pr.mk (Pr.mk g W (Nt (Mi M))).g (List.take (Pr.mk g W (Nt (Mi M))).W.length (List.drop 0 (Pr.mk g W (Nt (Mi M))).W)) (Nt (List.take (0 + (Mi (narM (Pr.mk g W (Nt (Mi M))))).length) (List.drop 0 (List.take 0 (List.drop 0 []) ++ Mi (narM (Pr.mk g W (Nt (Mi M))))))))))))) [] [] ∧ Mi (narM (Pr.mk g W (Nt (Mi M)))) = Mi (narM (Pr.mk g W (Nt (Mi M)))) ∧ narW (Pr.mk g W (Nt (Mi M))) = narW (Pr.mk g W (Nt (Mi M))) ∧ Value.bool (narO (Pr.mk g W (Nt (Mi M)))) = Value.bool (narO (Pr.mk g W (Nt (Mi M)))) ∧ Mi (narM (Pr.mk (Pr.mk g W (Nt (Mi M))).g (List.take (Pr.mk g W (Nt (Mi M))).W.length (List.drop 0 (Pr.mk g W (Nt (Mi M))).W)) (Nt (List.take (0 + (Mi (narM (Pr.mk g W (Nt (Mi M))))).length) (List.drop 0 (List.take 0 (List.drop 0 []) ++ Mi (narM (Pr.mk g W (Nt (Mi M)))))))))) = Mi (narM (Pr.mk (Pr.mk g W (Nt (Mi M))).g (List.take (Pr.mk g W (Nt (Mi M))).W.length (List.drop 0 (Pr.mk g W (Nt (Mi M))).W)) (Nt (List.take (0 + (Mi (narM (Pr.mk g W (Nt (Mi M))))).length) (List.drop 0 (List.take 0 (List.drop 0 []) ++ Mi (narM (Pr.mk g W (Nt (Mi M)))))))))) ∧ narW (Pr.mk (Pr.mk g W (Nt (Mi M))).g (List.take (Pr.mk g W (Nt (Mi M))).W.length (List.drop 0 (Pr.mk g W (Nt (Mi M))).W)) (Nt (List.take (0 + (Mi (narM (Pr.mk g W (Nt (Mi M))))).length) (List.drop 0 (List.take 0 (List.drop 0 []) ++ Mi (narM (Pr.mk g W (Nt (Mi M))))))))) = narW (Pr.mk (Pr.mk g W (Nt (Mi M))).g (List.take (Pr.mk g W (Nt (Mi M))).W.length (List.drop 0 (Pr.mk g W (Nt (Mi M))).W)) (Nt (List.take (0 + (Mi (narM (Pr.mk g W (Nt (Mi M))))).length) (List.drop 0 (List.take 0 (List.drop 0 []) ++ Mi (narM (Pr.mk g W (Nt (Mi M))))))))) ∧ Value.bool (narO (Pr.mk (Pr.mk g W (Nt (Mi M))).g (List.take (Pr.mk g W (Nt (Mi M))).W.length (List.drop 0 (Pr.mk g W (Nt (Mi M))).W)) (Nt (List.take (0 + (Mi (narM (Pr.mk g W (Nt (Mi M))))).length) (List.drop 0 (List.take 0 (List.drop 0 []) ++ Mi (narM (Pr.mk g W (Nt (Mi M)))))))))) = Value.bool (narO (Pr.mk (Pr.mk g W (Nt (Mi M))).g (List.take (Pr.mk g W (Nt (Mi M))).W.length (List.drop 0 (Pr.mk g W (Nt (Mi M))).W)) (Nt (List.take (0 + (Mi (narM (Pr.mk g W (Nt (Mi M))))).length) (List.drop 0 (List.take 0 (List.drop 0 []) ++ Mi (narM (Pr.mk g W (Nt (Mi M)))))))))) ∧ ((!decide (Mi (narM (Pr.mk g W (Nt (Mi M)))) = Mi (narM (Pr.mk (Pr.mk g W (Nt (Mi M))).g (List.take (Pr.mk g W (Nt (Mi M))).W.length (List.drop 0 (Pr.mk g W (Nt (Mi M))).W)) (Nt (List.take (0 + (Mi (narM (Pr.mk g W (Nt (Mi M))))).length) (List.drop 0 (List.take 0 (List.drop 0 []) ++ Mi (narM (Pr.mk g W (Nt (Mi M)))))))))) ∧ narW (Pr.mk g W (Nt (Mi M))) = narW (Pr.mk (Pr.mk g W (Nt (Mi M))).g (List.take (Pr.mk g W (Nt (Mi M))).W.length (List.drop 0 (Pr.mk g W (Nt (Mi M))).W)) (Nt (List.take (0 + (Mi (narM (Pr.mk g W (Nt (Mi M))))).length) (List.drop 0 (List.take 0 (List.drop 0 []) ++ Mi (narM (Pr.mk g W (Nt (Mi M))))))))) ∧ narO (Pr.mk g W (Nt (Mi M))) = narO (Pr.mk (Pr.mk g W (Nt (Mi M))).g (List.take (Pr.mk g W (Nt (Mi M))).W.length (List.drop 0 (Pr.mk g W (Nt (Mi M))).W)) (Nt (List.take (0 + (Mi (narM (Pr.mk g W (Nt (Mi M))))).length) (List.drop 0 (List.take 0 (List.drop 0 []) ++ Mi (narM (Pr.mk g W (Nt (Mi M))))))))))) = true → true = true ∧ true = true ∧ R (D.v (Value.bool false), [], [])) ∧ ((!decide (Mi (narM (Pr.mk g W (Nt (Mi M)))) = Mi (narM (Pr.mk (Pr.mk g W (Nt (Mi M))).g (List.take (Pr.mk g W (Nt (Mi M))).W.length (List.drop 0 (Pr.mk g W (Nt (Mi M))).W)) (Nt (List.take (0 + (Mi (narM (Pr.mk g W (Nt (Mi M))))).length) (List.drop 0 (List.take 0 (List.drop 0 []) ++ Mi (narM (Pr.mk g W (Nt (Mi M)))))))))) ∧ narW (Pr.mk g W (Nt (Mi M))) = narW (Pr.mk (Pr.mk g W (Nt (Mi M))).g (List.take (Pr.mk g W (Nt (Mi M))).W.length (List.drop 0 (Pr.mk g W (Nt (Mi M))).W)) (Nt (List.take (0 + (Mi (narM (Pr.mk g W (Nt (Mi M))))).length) (List.drop 0 (List.take 0 (List.drop 0 []) ++ Mi (narM (Pr.mk g W (Nt (Mi M))))))))) ∧ narO (Pr.mk g W (Nt (Mi M))) = narO (Pr.mk (Pr.mk g W (Nt (Mi M))).g (List.take (Pr.mk g W (Nt (Mi M))).W.length (List.drop 0 (Pr.mk g W (Nt (Mi M))).W)) (Nt (List.take (0 + (Mi (narM (Pr.mk g W (Nt (Mi M))))).length) (List.drop 0 (List.take 0 (List.drop 0 []) ++ Mi (narM (Pr.mk g W (Nt (Mi M))))))))))) = false → (((↑(narW (Pr.mk g W (Nt (Mi M)))).length : Int) != (↑(slotsF g).length : Int)) = true → true = true ∧ R (D.v (Value.bool false), [], [])) ∧ (((↑(narW (Pr.mk g W (Nt (Mi M)))).length : Int) != (↑(slotsF g).length : Int)) = false → (((↑(Mi (narM (Pr.mk g W (Nt (Mi M))))).length : Int) != (↑(Mi M).length : Int)) = true → R (D.v (Value.bool false), [], [])) ∧ (((↑(Mi (narM (Pr.mk g W (Nt (Mi M))))).length : Int) != (↑(Mi M).length : Int)) = false → SameK (KK n18 0) (KK n18 0) ∧ G 0 (stOf 207 [1, 3, 8, 84, 85, 86] [D.ptr 0 0 0, D.ptr 1 0 0, D.v (Value.bool true), D.sl false false ((Ty.int IntKind.i64).prod (Ty.bool.prod (Ty.int IntKind.i64).sl)) (slotsF g), D.v (Value.int IntKind.i64 (↑(slotsF g).length : Int)), D.v (Value.int IntKind.i64 (0 : Int))] [Slot.live (Row.box 68 [D.v (Value.int IntKind.i64 g.h), D.v (Value.int IntKind.i64 g.w), D.sl false false Ty.bool g.B, D.sl false false Ty.bool g.R, D.sl false false Ty.bool g.L, D.sl false false (Ty.int IntKind.i64).sl W, D.sl false false (Ty.int IntKind.u64) (Mi M)]), Slot.live (Row.box 71 [D.sl false false (Ty.int IntKind.u64) (Mi (narM (Pr.mk g W (Nt (Mi M))))), D.sl false false (Ty.int IntKind.i64).sl (narW (Pr.mk g W (Nt (Mi M)))), D.v (Value.bool (narO (Pr.mk g W (Nt (Mi M)))))])])))))))) hmG Try.func18 (by kernel_rfl) (by kernel_rfl) (fun G R => by kernel_rfl) ?_
  try dsimp only
  have c57 := d57
  have c59 := d59s g W M F.small
  have hW1 := F.W
  have hw1 := F.w
  have hM1 := F.M
  simp only at hW1 hw1 hM1
  have c58 := d58 g W M F.g hW1 hw1 hM1
  have c62 := d62 g W M
  have c65 := d65s g
  simp only [Nt_Mi]
  by_cases h : checkP ⟨g, W, M⟩ = 0
  · obtain ⟨q1, q2, q3, q4⟩ := nar_again h
    have hlen := narM_len _ h
    simp only at q1 q2 q3 q4 hlen
    have hns := nar_small h F.small
    have hwl := narW_len h
    have c59q := d59s g W (narM ⟨g, W, M⟩) hns
    have hS := slots_900 (checkP_zero h).1
    simp only at hwl hS
    have hws : ∀ w ∈ narW ⟨g, W, M⟩, w.length ≤ 17592186044416 := by
      intro w hw
      obtain ⟨j, hj, e⟩ := List.getElem_of_mem hw
      have hsl := (slot18 (j := j) h F.small (by simp only; omega)).few
      rw [List.getD_eq_getElem?_getD, List.getElem?_eq_getElem hj, e] at hsl
      simp only [Option.getD_some] at hsl
      omega
    have c61 := d61 (Mi (narM ⟨g, W, M⟩)) (Mi (narM ⟨g, W, M⟩)) (narW ⟨g, W, M⟩) (narW ⟨g, W, M⟩) (narO ⟨g, W, M⟩) (narO ⟨g, W, M⟩) (by rw [Mi_len]; omega) (by omega) hws
    have hxx := e18a g W M (narM ⟨g, W, M⟩) (narW ⟨g, W, M⟩) (narO ⟨g, W, M⟩) (slotsF g) (by omega) hwl hns F.small (fun j hj => slot18 h F.small hj) (fun j => leq_and (nar_given h) j) (slotsF g).length true 0 (by omega) (by omega) (by rw [restO_ok hwl, narO_eq h]; rfl)
    have e0 : ((0 : Int) != 0) = false := rfl
    have e1 : (((narW ⟨g, W, M⟩).length : Int) != ((slotsF g).length : Int)) = false := by rw [hwl]; simp
    have e2 : (((narM ⟨g, W, M⟩).length : Int) != (M.length : Int)) = false := by rw [hlen]; simp
    simp only [h] at c59
    simp only [q1, q2, q3, q4] at c59q
    simp only [and_self, decide_true] at c61
    have hro : roomy Try.prog 80 (narM ⟨g, W, M⟩).length := roomU (by omega)
    simp only [h, e0, take_len, List.drop_zero, List.take_length, Mi_getD, Mi_len, Nt_Mi, Int.toNat_natCast, Mi_set, Nat.zero_add, Nat.sub_zero, List.length_set, take_one, takeSn, List.take_zero, List.nil_append, List.length_append, List.length_cons, List.length_nil, Mi_take]
    simp only [Nt_Mi, Mi_len, q1, q2, q3, q4, e0, e1, e2, and_self, decide_true, Bool.not_true]
    simp (disch := omega) only [wrG, sameK_iff, true_and, and_true, decide_eq_true_eq, decide_eq_false_iff_not, ne_eq, not_false_eq_true, Bool.false_eq_true, Bool.true_eq_false, false_implies, true_implies, Ty.dflt, reduceCtorEq, beq_iff_eq, bne_iff_ne, beq_eq_false_iff_ne, bne_eq_false_iff_eq, Bool.not_eq_true, Bool.not_eq_eq_eq_not, Bool.not_true, Bool.not_false, gt_iff_lt, ge_iff_le, Int.not_lt, Int.not_le]
    repeat' (first | with_reducible refine And.intro ?_ ?_ | intro _)
    all_goals first | rfl | omega | assumption | trivial | (exfalso; omega) | skip
  · have e1 := narM_no h
    have e2 := narW_no h
    have e3 := narO_no h
    have e0 : (checkP ⟨g, W, M⟩ != 0) = true := by rw [bne_iff_ne]; exact h
    have e4 : (checkP ⟨g, W, M⟩ == checkP ⟨g, W, M⟩) = true := by simp
    simp only [e1, e2, e3] at c59
    have e5 : (IntKind.i64.wrap (((Mi []).length : Int) + (([] : List (List Int)).length : Int)) == 0) = true := by decide
    simp only [e1, e2, e3, e0, e4, e5, Bool.not_false]
    simp (disch := omega) only [wrG, sameK_iff, true_and, and_true, decide_eq_true_eq, decide_eq_false_iff_not, ne_eq, not_false_eq_true, Bool.false_eq_true, Bool.true_eq_false, false_implies, true_implies, Ty.dflt, reduceCtorEq, beq_iff_eq, bne_iff_ne, beq_eq_false_iff_ne, bne_eq_false_iff_eq, Bool.not_eq_true, Bool.not_eq_eq_eq_not, Bool.not_true, Bool.not_false, gt_iff_lt, ge_iff_le, Int.not_lt, Int.not_le]
    repeat' (first | with_reducible refine And.intro ?_ ?_ | intro _)
    all_goals first | rfl | omega | assumption | trivial | (exfalso; simp_all; done) | (exfalso; omega) | skip
end Go.Proofs.YtnakmganodkliaaAm
namespace Go.Proofs.YtnakmganodkliaaAm
open Go
theorem getD_any {α : Type} {l : List α} {k : Nat} (h : k < l.length) (a b : α) : l.getD k a = l.getD k b := by
  rw [List.getD_eq_getElem?_getD, List.getD_eq_getElem?_getD, List.getElem?_eq_getElem h]
  rfl
theorem getD_set_int (l : List Int) (c : Nat) (v : Int) (d : Nat) (e : Int) : (l.set c v).getD d e = if c = d ∧ c < l.length then v else l.getD d e := getD_set_gen e l c v d
structure PickK (p : Pr) (pick : List Int) (s k : Nat) (ls : List Int) : Prop where
  all : Picked p pick s ls
  cur : ∀ j x, j < k → (sAtN (slotsF p.g) s).2.2[j]? = some x → ls.getD x.toNat (-1) = (wordAt p.W (pick.getD s 0)).getD j 0 ∧ 0 ≤ ls.getD x.toNat (-1)
theorem pick_new {p : Pr} {pick ls : List Int} (hl : ls.length = p.M.length) (h : ∀ c : Nat, c < ls.length → ls.getD c 0 = -1) : Picked p pick 0 ls := by
  have hall : ∀ c : Nat, ls.getD c (-1) = -1 := fun c => by
    by_cases hc : c < ls.length
    · rw [getD_any hc (-1) 0]; exact h c hc
    · rw [List.getD_eq_getElem?_getD, List.getElem?_eq_none (by omega)]; rfl
  exact ⟨hl, fun c hc => by rw [hall c] at hc; omega, fun s hs => by omega, fun s hs => by omega⟩
theorem seat_in {p : Pr} {s : Nat} (hs : s < (slotsF p.g).length) {x : Int} (hx : x ∈ (sAtN (slotsF p.g) s).2.2) : seatedB (slotsF p.g) x.toNat = true := by
  unfold seatedB
  rw [List.any_eq_true]
  refine ⟨sAtN (slotsF p.g) s, getD_in (d := (0, false, [])) hs, ?_⟩
  rw [List.any_eq_true]
  exact ⟨x, hx, by simp⟩
theorem PickK.step {p : Pr} {pick ls : List Int} {s k : Nat} {c y : Int} (q : PickK p pick s k ls) (hs : s < (slotsF p.g).length) (hk : k < (sAtN (slotsF p.g) s).2.2.length) (hc : (sAtN (slotsF p.g) s).2.2.getD k 0 = c) (hy : (wordAt p.W (pick.getD s 0)).getD k 0 = y) (hcl : c.toNat < ls.length)
    (hh : hasN (p.M.getD c.toNat 0) y = true) (ho : 0 ≤ ls.getD c.toNat 0 → ls.getD c.toNat 0 = y) : PickK p pick s (k + 1) (ls.set c.toNat y) := by
  have hy0 := has_lt hh
  have ho' : 0 ≤ ls.getD c.toNat (-1) → ls.getD c.toNat (-1) = y := by rw [getD_any hcl (-1) 0]; exact ho
  have hset : ∀ d : Nat, (ls.set c.toNat y).getD d (-1) = if c.toNat = d then y else ls.getD d (-1) := fun d => by
    rw [getD_set_int]
    by_cases e : c.toNat = d
    · rw [if_pos ⟨e, hcl⟩, if_pos e]
    · rw [if_neg (fun h => e h.1), if_neg e]
  refine ⟨⟨by rw [List.length_set]; exact q.all.len, fun d hd => ?_, q.all.word, fun t ht j x hx => ?_⟩, fun j x hj hx => ?_⟩
  · rw [hset] at hd ⊢
    by_cases e : c.toNat = d
    · rw [if_pos e]
      subst e
      refine ⟨hh, seat_in hs ?_⟩
      rw [← hc]
      exact getD_in hk
    · rw [if_neg e] at hd ⊢
      exact q.all.low d hd
  · have h1 := q.all.here t ht j x hx
    rw [hset]
    by_cases e : c.toNat = x.toNat
    · rw [if_pos e]
      rw [← e] at h1
      have h2 := ho' h1.2
      exact ⟨by rw [← h2]; exact h1.1, hy0.1⟩
    · rw [if_neg e]
      exact h1
  · rw [hset]
    by_cases ej : j = k
    · subst ej
      have hxc : x = c := by
        rw [← hc, List.getD_eq_getElem?_getD, hx]
        rfl
      rw [if_pos (by rw [hxc]), hy]
      exact ⟨rfl, hy0.1⟩
    · have h1 := q.cur j x (by omega) hx
      by_cases e : c.toNat = x.toNat
      · rw [if_pos e]
        rw [← e] at h1
        have h2 := ho' h1.2
        exact ⟨by rw [← h2]; exact h1.1, hy0.1⟩
      · rw [if_neg e]
        exact h1
theorem PickK.done {p : Pr} {pick ls : List Int} {s : Nat} (q : PickK p pick s (sAtN (slotsF p.g) s).2.2.length ls) (hw : 0 ≤ pick.getD s 0 ∧ pick.getD s 0 < p.W.length ∧ (wordAt p.W (pick.getD s 0)).length = (sAtN (slotsF p.g) s).2.2.length) : Picked p pick (s + 1) ls := by
  refine ⟨q.all.len, q.all.low, fun t ht => ?_, fun t ht j x hx => ?_⟩
  · by_cases e : t = s
    · subst e; exact hw
    · exact q.all.word t (by omega)
  · by_cases e : t = s
    · subst e
      exact q.cur j x (List.getElem?_eq_some_iff.1 hx).1 hx
    · exact q.all.here t (by omega) j x hx
theorem Picked.start {p : Pr} {pick ls : List Int} {s : Nat} (q : Picked p pick s ls) : PickK p pick s 0 ls := ⟨q, fun j x hj _ => by omega⟩
end Go.Proofs.YtnakmganodkliaaAm
set_option maxRecDepth 100000
namespace Go.Proofs.YtnakmganodkliaaAm
open Go
theorem e17f (g : Gr) (W : List (List Int)) (M : List Nat) (m : List Nat) (ws : List (List Int)) (o : Bool) (S : List Slt) (P : List Int) (ls : List Int) (n : Nat) (hls : ls.length = n) (hn : n ≤ 17592186044416) (hmn : m.length = n) (hm : Smalls m) (ho : o = true) (hL : ∀ c : Nat, 0 ≤ ls.getD c (-1) → hasN (m.getD c 0) (ls.getD c (-1)) = true) (z : Nat) : ∀ (c : Int), 0 ≤ c → c + z = n → GetsK Try.prog Try.f17.results.toList [none] (KK n17) 0 (.v (.bool true), [], []) 5 (stOf 196 [2,5,174,175,176] [.ptr 0 0 0, .ptr 1 0 0, .own 2 0 n (some n), .v (.int .i64 n), .v (.int .i64 c)] [.live (.box 68 [.v (.int .i64 g.h), .v (.int .i64 g.w), .sl false false .bool g.B, .sl false false .bool g.R, .sl false false .bool g.L, slW W, slU M]), .live (.box 71 [slU m, slW ws, .v (.bool o)]), .live (.data 3 (.int .i64) ls)]) := by
  induction z with
  | zero =>
    intro c c0 hc
    subst ho
    refine gets_vc spNc (fun k => [[1,2,5,7,8,52,53,54],[1,2,5,7,8,61,62,63],[1,2,5,7,8,10,11,61,62,63,99,100,101],[1,2,5,7,8,146,147,148],[1,2,5,7,8,15,16,146,147,148,155,156,157],[2,5,174,175,176]].getD k []) (fun _ => []) 400 (.fork (.fork (.fork .stop (.hd 5)) (.f (.hd 5))) .stop) (V := fun G R => (decide (c < (↑n : Int)) = true → (0 : Int) ≤ c ∧ c < (↑n : Int) ∧ 0 + c.toNat < ls.length ∧ (decide (ls.getD (0 + c.toNat) (Ty.int IntKind.i64).dflt ≥ (0 : Int)) = true → (0 : Int) ≤ c ∧ c < (↑(Mi m).length : Int) ∧ Con Try.prog 66 [] [D.v (Value.int IntKind.u64 ((Mi m).getD c.toNat (Ty.int IntKind.u64).dflt)), D.v (Value.int IntKind.i64 (ls.getD (0 + c.toNat) (Ty.int IntKind.i64).dflt))] (D.v (Value.bool (hasN (Int.toNat ((Mi m).getD c.toNat (Ty.int IntKind.u64).dflt)) (ls.getD (0 + c.toNat) (Ty.int IntKind.i64).dflt)))) [] [] ∧ Value.int IntKind.u64 ((Mi m).getD c.toNat (Ty.int IntKind.u64).dflt) = Value.int IntKind.u64 ((Mi m).getD c.toNat (Ty.int IntKind.u64).dflt) ∧ Value.int IntKind.i64 (ls.getD (0 + c.toNat) (Ty.int IntKind.i64).dflt) = Value.int IntKind.i64 (ls.getD (0 + c.toNat) (Ty.int IntKind.i64).dflt) ∧ ((!hasN (Int.toNat ((Mi m).getD c.toNat (Ty.int IntKind.u64).dflt)) (ls.getD (0 + c.toNat) (Ty.int IntKind.i64).dflt)) = true → R (D.v (Value.bool false), [], [])) ∧ ((!hasN (Int.toNat ((Mi m).getD c.toNat (Ty.int IntKind.u64).dflt)) (ls.getD (0 + c.toNat) (Ty.int IntKind.i64).dflt)) = false → SameK (KK n17 5) (KK n17 5) ∧ G 5 (stOf 196 [2, 5, 174, 175, 176] [D.ptr 0 0 0, D.ptr 1 0 0, D.own 2 0 n (some n), D.v (Value.int IntKind.i64 (↑n : Int)), D.v (Value.int IntKind.i64 (IntKind.i64.wrap (c + (1 : Int))))] [Slot.live (Row.box 68 [D.v (Value.int IntKind.i64 g.h), D.v (Value.int IntKind.i64 g.w), D.sl false false Ty.bool g.B, D.sl false false Ty.bool g.R, D.sl false false Ty.bool g.L, D.sl false false (Ty.int IntKind.i64).sl W, D.sl false false (Ty.int IntKind.u64) (Mi M)]), Slot.live (Row.box 71 [D.sl false false (Ty.int IntKind.u64) (Mi m), D.sl false false (Ty.int IntKind.i64).sl ws, D.v (Value.bool true)]), Slot.live (Row.data 3 (Ty.int IntKind.i64) ls)]))) ∧ (decide (ls.getD (0 + c.toNat) (Ty.int IntKind.i64).dflt ≥ (0 : Int)) = false → false = false ∧ SameK (KK n17 5) (KK n17 5) ∧ G 5 (stOf 196 [2, 5, 174, 175, 176] [D.ptr 0 0 0, D.ptr 1 0 0, D.own 2 0 n (some n), D.v (Value.int IntKind.i64 (↑n : Int)), D.v (Value.int IntKind.i64 (IntKind.i64.wrap (c + (1 : Int))))] [Slot.live (Row.box 68 [D.v (Value.int IntKind.i64 g.h), D.v (Value.int IntKind.i64 g.w), D.sl false false Ty.bool g.B, D.sl false false Ty.bool g.R, D.sl false false Ty.bool g.L, D.sl false false (Ty.int IntKind.i64).sl W, D.sl false false (Ty.int IntKind.u64) (Mi M)]), Slot.live (Row.box 71 [D.sl false false (Ty.int IntKind.u64) (Mi m), D.sl false false (Ty.int IntKind.i64).sl ws, D.v (Value.bool true)]), Slot.live (Row.data 3 (Ty.int IntKind.i64) ls)]))) ∧ (decide (c < (↑n : Int)) = false → R (D.v (Value.bool true), [], []))) hmG (fun G R => by kernel_rfl) ?_
    simp (disch := omega) only [wrG, sameK_iff, true_and, and_true, decide_eq_true_eq, decide_eq_false_iff_not, ne_eq, not_false_eq_true, Bool.false_eq_true, Bool.true_eq_false, false_implies, true_implies, Ty.dflt, reduceCtorEq, beq_iff_eq, bne_iff_ne, beq_eq_false_iff_ne, bne_eq_false_iff_eq, Bool.not_eq_true, Bool.not_eq_eq_eq_not, Bool.not_true, Bool.not_false, gt_iff_lt, ge_iff_le, Int.not_lt, Int.not_le]
    repeat' (first | with_reducible refine And.intro ?_ ?_ | intro _)
    all_goals first | rfl | omega | assumption | trivial | (exfalso; simp_all; done) | (exfalso; omega) | skip
  | succ z ih =>
    intro c c0 hc
    have hk1 : IntKind.i64.wrap (c + 1) = c + 1 := wrG (by omega) (by omega)
    have h1 := ih (c + 1) (by omega) (by omega)
    have h2 := hL c.toNat
    rw [getD_any (by omega) (-1) 0] at h2
    have c1 := d66 (m.getD c.toNat 0) (ls.getD c.toNat 0) (hm.at _)
    refine gets_vc spNc (fun k => [[1,2,5,7,8,52,53,54],[1,2,5,7,8,61,62,63],[1,2,5,7,8,10,11,61,62,63,99,100,101],[1,2,5,7,8,146,147,148],[1,2,5,7,8,15,16,146,147,148,155,156,157],[2,5,174,175,176]].getD k []) (fun _ => []) 400 (.fork (.fork (.fork .stop (.hd 5)) (.f (.hd 5))) .stop) (V := fun G R => (decide (c < (↑n : Int)) = true → (0 : Int) ≤ c ∧ c < (↑n : Int) ∧ 0 + c.toNat < ls.length ∧ (decide (ls.getD (0 + c.toNat) (Ty.int IntKind.i64).dflt ≥ (0 : Int)) = true → (0 : Int) ≤ c ∧ c < (↑(Mi m).length : Int) ∧ Con Try.prog 66 [] [D.v (Value.int IntKind.u64 ((Mi m).getD c.toNat (Ty.int IntKind.u64).dflt)), D.v (Value.int IntKind.i64 (ls.getD (0 + c.toNat) (Ty.int IntKind.i64).dflt))] (D.v (Value.bool (hasN (Int.toNat ((Mi m).getD c.toNat (Ty.int IntKind.u64).dflt)) (ls.getD (0 + c.toNat) (Ty.int IntKind.i64).dflt)))) [] [] ∧ Value.int IntKind.u64 ((Mi m).getD c.toNat (Ty.int IntKind.u64).dflt) = Value.int IntKind.u64 ((Mi m).getD c.toNat (Ty.int IntKind.u64).dflt) ∧ Value.int IntKind.i64 (ls.getD (0 + c.toNat) (Ty.int IntKind.i64).dflt) = Value.int IntKind.i64 (ls.getD (0 + c.toNat) (Ty.int IntKind.i64).dflt) ∧ ((!hasN (Int.toNat ((Mi m).getD c.toNat (Ty.int IntKind.u64).dflt)) (ls.getD (0 + c.toNat) (Ty.int IntKind.i64).dflt)) = true → R (D.v (Value.bool false), [], [])) ∧ ((!hasN (Int.toNat ((Mi m).getD c.toNat (Ty.int IntKind.u64).dflt)) (ls.getD (0 + c.toNat) (Ty.int IntKind.i64).dflt)) = false → SameK (KK n17 5) (KK n17 5) ∧ G 5 (stOf 196 [2, 5, 174, 175, 176] [D.ptr 0 0 0, D.ptr 1 0 0, D.own 2 0 n (some n), D.v (Value.int IntKind.i64 (↑n : Int)), D.v (Value.int IntKind.i64 (IntKind.i64.wrap (c + (1 : Int))))] [Slot.live (Row.box 68 [D.v (Value.int IntKind.i64 g.h), D.v (Value.int IntKind.i64 g.w), D.sl false false Ty.bool g.B, D.sl false false Ty.bool g.R, D.sl false false Ty.bool g.L, D.sl false false (Ty.int IntKind.i64).sl W, D.sl false false (Ty.int IntKind.u64) (Mi M)]), Slot.live (Row.box 71 [D.sl false false (Ty.int IntKind.u64) (Mi m), D.sl false false (Ty.int IntKind.i64).sl ws, D.v (Value.bool o)]), Slot.live (Row.data 3 (Ty.int IntKind.i64) ls)]))) ∧ (decide (ls.getD (0 + c.toNat) (Ty.int IntKind.i64).dflt ≥ (0 : Int)) = false → false = false ∧ SameK (KK n17 5) (KK n17 5) ∧ G 5 (stOf 196 [2, 5, 174, 175, 176] [D.ptr 0 0 0, D.ptr 1 0 0, D.own 2 0 n (some n), D.v (Value.int IntKind.i64 (↑n : Int)), D.v (Value.int IntKind.i64 (IntKind.i64.wrap (c + (1 : Int))))] [Slot.live (Row.box 68 [D.v (Value.int IntKind.i64 g.h), D.v (Value.int IntKind.i64 g.w), D.sl false false Ty.bool g.B, D.sl false false Ty.bool g.R, D.sl false false Ty.bool g.L, D.sl false false (Ty.int IntKind.i64).sl W, D.sl false false (Ty.int IntKind.u64) (Mi M)]), Slot.live (Row.box 71 [D.sl false false (Ty.int IntKind.u64) (Mi m), D.sl false false (Ty.int IntKind.i64).sl ws, D.v (Value.bool o)]), Slot.live (Row.data 3 (Ty.int IntKind.i64) ls)]))) ∧ (decide (c < (↑n : Int)) = false → R (D.v (Value.bool o), [], []))) hmG (fun G R => by kernel_rfl) ?_
    simp only [Ty.dflt, hk1, take_len, List.drop_zero, List.take_length, Mi_getD, Mi_len, Nt_Mi, Int.toNat_natCast, Mi_set, Nat.zero_add, Nat.sub_zero, List.length_set, take_one, takeSn, List.take_zero, List.nil_append, List.length_append, List.length_cons, List.length_nil]
    by_cases hy : 0 ≤ ls.getD c.toNat 0
    · simp only [h2 hy, Bool.not_true]
      rw [h2 hy] at c1
      simp (disch := omega) only [wrG, sameK_iff, true_and, and_true, decide_eq_true_eq, decide_eq_false_iff_not, ne_eq, not_false_eq_true, Bool.false_eq_true, Bool.true_eq_false, false_implies, true_implies, Ty.dflt, reduceCtorEq, beq_iff_eq, bne_iff_ne, beq_eq_false_iff_ne, bne_eq_false_iff_eq, Bool.not_eq_true, Bool.not_eq_eq_eq_not, Bool.not_true, Bool.not_false, gt_iff_lt, ge_iff_le, Int.not_lt, Int.not_le]
      repeat' (first | with_reducible refine And.intro ?_ ?_ | intro _)
      all_goals first | rfl | omega | assumption | trivial | (exfalso; simp_all; done) | (exfalso; omega) | skip
    · have hy2 : decide (ls.getD c.toNat 0 ≥ 0) = false := decide_eq_false (by omega)
      simp only [hy2]
      simp (disch := omega) only [wrG, sameK_iff, true_and, and_true, decide_eq_true_eq, decide_eq_false_iff_not, ne_eq, not_false_eq_true, Bool.false_eq_true, Bool.true_eq_false, false_implies, true_implies, Ty.dflt, reduceCtorEq, beq_iff_eq, bne_iff_ne, beq_eq_false_iff_ne, bne_eq_false_iff_eq, Bool.not_eq_true, Bool.not_eq_eq_eq_not, Bool.not_true, Bool.not_false, gt_iff_lt, ge_iff_le, Int.not_lt, Int.not_le]
      repeat' (first | with_reducible refine And.intro ?_ ?_ | intro _)
      all_goals first | rfl | omega | assumption | trivial | (exfalso; simp_all; done) | (exfalso; omega) | skip
def vq25 (g : Gr) (W : List (List Int)) (M : List Nat) (m : List Nat) (ws : List (List Int)) (o : Bool) (S : List Slt) (P : List Int) (ls : List Int) (n : Nat) (i : Int) (l : List Int) (t : Int) (G : Nat → St → Prop) (R : D × List (Option Row) × List Row → Prop) : Prop := (decide (t < (↑l.length : Int)) = true → (0 : Int) ≤ t ∧ t < (↑l.length : Int) ∧ (true = true → SameK (KK n17 4) (KK n17 4) ∧ G 4 (stOf 196 [1, 2, 5, 7, 8, 15, 16, 146, 147, 148, 155, 156, 157] [D.sl false false (Ty.int IntKind.i64) P, D.ptr 0 0 0, D.ptr 1 0 0, D.sl false false ((Ty.int IntKind.i64).prod (Ty.bool.prod (Ty.int IntKind.i64).sl)) S, D.own 2 0 n (some n), D.v (Value.int IntKind.i64 i), D.v (Value.bool true), D.sl false false ((Ty.int IntKind.i64).prod (Ty.bool.prod (Ty.int IntKind.i64).sl)) S, D.v (Value.int IntKind.i64 (↑S.length : Int)), D.v (Value.int IntKind.i64 i), D.sl false false (Ty.int IntKind.i64) l, D.v (Value.int IntKind.i64 (↑l.length : Int)), D.v (Value.int IntKind.i64 (IntKind.i64.wrap (t + (1 : Int))))] [Slot.live (Row.box 68 [D.v (Value.int IntKind.i64 g.h), D.v (Value.int IntKind.i64 g.w), D.sl false false Ty.bool g.B, D.sl false false Ty.bool g.R, D.sl false false Ty.bool g.L, D.sl false false (Ty.int IntKind.i64).sl W, D.sl false false (Ty.int IntKind.u64) (Mi M)]), Slot.live (Row.box 71 [D.sl false false (Ty.int IntKind.u64) (Mi m), D.sl false false (Ty.int IntKind.i64).sl ws, D.v (Value.bool o)]), Slot.live (Row.data 3 (Ty.int IntKind.i64) ls)])) ∧ (true = false → (0 : Int) ≤ i ∧ i < (↑P.length : Int) ∧ SameK (KK n17 4) (KK n17 4) ∧ G 4 (stOf 196 [1, 2, 5, 7, 8, 15, 16, 146, 147, 148, 155, 156, 157] [D.sl false false (Ty.int IntKind.i64) P, D.ptr 0 0 0, D.ptr 1 0 0, D.sl false false ((Ty.int IntKind.i64).prod (Ty.bool.prod (Ty.int IntKind.i64).sl)) S, D.own 2 0 n (some n), D.v (Value.int IntKind.i64 i), D.v (Value.bool (l.getD t.toNat (Ty.int IntKind.i64).dflt == P.getD i.toNat (Ty.int IntKind.i64).dflt)), D.sl false false ((Ty.int IntKind.i64).prod (Ty.bool.prod (Ty.int IntKind.i64).sl)) S, D.v (Value.int IntKind.i64 (↑S.length : Int)), D.v (Value.int IntKind.i64 i), D.sl false false (Ty.int IntKind.i64) l, D.v (Value.int IntKind.i64 (↑l.length : Int)), D.v (Value.int IntKind.i64 (IntKind.i64.wrap (t + (1 : Int))))] [Slot.live (Row.box 68 [D.v (Value.int IntKind.i64 g.h), D.v (Value.int IntKind.i64 g.w), D.sl false false Ty.bool g.B, D.sl false false Ty.bool g.R, D.sl false false Ty.bool g.L, D.sl false false (Ty.int IntKind.i64).sl W, D.sl false false (Ty.int IntKind.u64) (Mi M)]), Slot.live (Row.box 71 [D.sl false false (Ty.int IntKind.u64) (Mi m), D.sl false false (Ty.int IntKind.i64).sl ws, D.v (Value.bool o)]), Slot.live (Row.data 3 (Ty.int IntKind.i64) ls)]))) ∧ (decide (t < (↑l.length : Int)) = false → ((!true) = true → R (D.v (Value.bool false), [], [])) ∧ ((!true) = false → SameK (KK n17 3) (KK n17 3) ∧ G 3 (stOf 196 [1, 2, 5, 7, 8, 146, 147, 148] [D.sl false false (Ty.int IntKind.i64) P, D.ptr 0 0 0, D.ptr 1 0 0, D.sl false false ((Ty.int IntKind.i64).prod (Ty.bool.prod (Ty.int IntKind.i64).sl)) S, D.own 2 0 n (some n), D.sl false false ((Ty.int IntKind.i64).prod (Ty.bool.prod (Ty.int IntKind.i64).sl)) S, D.v (Value.int IntKind.i64 (↑S.length : Int)), D.v (Value.int IntKind.i64 (IntKind.i64.wrap (i + (1 : Int))))] [Slot.live (Row.box 68 [D.v (Value.int IntKind.i64 g.h), D.v (Value.int IntKind.i64 g.w), D.sl false false Ty.bool g.B, D.sl false false Ty.bool g.R, D.sl false false Ty.bool g.L, D.sl false false (Ty.int IntKind.i64).sl W, D.sl false false (Ty.int IntKind.u64) (Mi M)]), Slot.live (Row.box 71 [D.sl false false (Ty.int IntKind.u64) (Mi m), D.sl false false (Ty.int IntKind.i64).sl ws, D.v (Value.bool o)]), Slot.live (Row.data 3 (Ty.int IntKind.i64) ls)])))
theorem e17e (g : Gr) (W : List (List Int)) (M : List Nat) (m : List Nat) (ws : List (List Int)) (o : Bool) (S : List Slt) (P : List Int) (ls : List Int) (n : Nat) (i : Int) (l : List Int) (i0 : 0 ≤ i) (i1 : i < P.length) (hl : l.length ≤ 1000) (hx : GetsK Try.prog Try.f17.results.toList [none] (KK n17) 0 (.v (.bool true), [], []) 3 (stOf 196 [1,2,5,7,8,146,147,148] [slI P, .ptr 0 0 0, .ptr 1 0 0, slS S, .own 2 0 n (some n), slS S, .v (.int .i64 S.length), .v (.int .i64 (i + 1))] [.live (.box 68 [.v (.int .i64 g.h), .v (.int .i64 g.w), .sl false false .bool g.B, .sl false false .bool g.R, .sl false false .bool g.L, slW W, slU M]), .live (.box 71 [slU m, slW ws, .v (.bool o)]), .live (.data 3 (.int .i64) ls)])) (hii : IntKind.i64.wrap (i + 1) = i + 1) (z : Nat) : ∀ (t : Int) (f : Bool), 0 ≤ t → t + z = l.length → (f = true ∨ P.getD i.toNat 0 ∈ l.drop t.toNat) → GetsK Try.prog Try.f17.results.toList [none] (KK n17) 0 (.v (.bool true), [], []) 4 (stOf 196 [1,2,5,7,8,15,16,146,147,148,155,156,157] [slI P, .ptr 0 0 0, .ptr 1 0 0, slS S, .own 2 0 n (some n), .v (.int .i64 i), .v (.bool f), slS S, .v (.int .i64 S.length), .v (.int .i64 i), slI l, .v (.int .i64 l.length), .v (.int .i64 t)] [.live (.box 68 [.v (.int .i64 g.h), .v (.int .i64 g.w), .sl false false .bool g.B, .sl false false .bool g.R, .sl false false .bool g.L, slW W, slU M]), .live (.box 71 [slU m, slW ws, .v (.bool o)]), .live (.data 3 (.int .i64) ls)]) := by
  induction z with
  | zero =>
    intro t f t0 ht hf
    rw [List.drop_eq_nil_of_le (by omega)] at hf
    have hf : f = true := hf.resolve_right (by simp)
    subst hf
    refine gets_vc spNc (fun k => [[1,2,5,7,8,52,53,54],[1,2,5,7,8,61,62,63],[1,2,5,7,8,10,11,61,62,63,99,100,101],[1,2,5,7,8,146,147,148],[1,2,5,7,8,15,16,146,147,148,155,156,157],[2,5,174,175,176]].getD k []) (fun _ => []) 400 (.fork (.fork (.hd 4) (.hd 4)) (.fork .stop (.hd 3))) (V := vq25 g W M m ws o S P ls n i l t) hmG (fun G R => by kernel_rfl) ?_
    unfold vq25
    simp only [hii]
    simp (disch := omega) only [wrG, sameK_iff, true_and, and_true, decide_eq_true_eq, decide_eq_false_iff_not, ne_eq, not_false_eq_true, Bool.false_eq_true, Bool.true_eq_false, false_implies, true_implies, Ty.dflt, reduceCtorEq, beq_iff_eq, bne_iff_ne, beq_eq_false_iff_ne, bne_eq_false_iff_eq, Bool.not_eq_true, Bool.not_eq_eq_eq_not, Bool.not_true, Bool.not_false, gt_iff_lt, ge_iff_le, Int.not_lt, Int.not_le]
    repeat' (first | with_reducible refine And.intro ?_ ?_ | intro _)
    all_goals first | rfl | omega | assumption | trivial | (exfalso; simp_all; done) | (exfalso; omega) | skip
  | succ z ih =>
    intro t f t0 ht hf
    have hk1 : IntKind.i64.wrap (t + 1) = t + 1 := wrG (by omega) (by omega)
    rw [drop_at (xs := l) (i := t) (0 : Int) t0 (by omega), List.mem_cons] at hf
    cases f with
    | true =>
      have h1 := ih (t + 1) true (by omega) (by omega) (Or.inl rfl)
      refine gets_vc spNc (fun k => [[1,2,5,7,8,52,53,54],[1,2,5,7,8,61,62,63],[1,2,5,7,8,10,11,61,62,63,99,100,101],[1,2,5,7,8,146,147,148],[1,2,5,7,8,15,16,146,147,148,155,156,157],[2,5,174,175,176]].getD k []) (fun _ => []) 400 (.fork (.fork (.hd 4) (.hd 4)) (.fork .stop (.hd 3))) (V := vq25 g W M m ws o S P ls n i l t) hmG (fun G R => by kernel_rfl) ?_
      unfold vq25
      simp only [Ty.dflt, hk1]
      simp (disch := omega) only [wrG, sameK_iff, true_and, and_true, decide_eq_true_eq, decide_eq_false_iff_not, ne_eq, not_false_eq_true, Bool.false_eq_true, Bool.true_eq_false, false_implies, true_implies, Ty.dflt, reduceCtorEq, beq_iff_eq, bne_iff_ne, beq_eq_false_iff_ne, bne_eq_false_iff_eq, Bool.not_eq_true, Bool.not_eq_eq_eq_not, Bool.not_true, Bool.not_false, gt_iff_lt, ge_iff_le, Int.not_lt, Int.not_le]
      repeat' (first | with_reducible refine And.intro ?_ ?_ | intro _)
      all_goals first | rfl | omega | assumption | trivial | (exfalso; simp_all; done) | (exfalso; omega) | skip
    | false =>
      have h1 := ih (t + 1) (l.getD t.toNat 0 == P.getD i.toNat 0) (by omega) (by omega) (by
        rcases hf with h | h | h
        · cases h
        · left
          rw [h]
          simp
        · exact Or.inr h)
      refine gets_vc spNc (fun k => [[1,2,5,7,8,52,53,54],[1,2,5,7,8,61,62,63],[1,2,5,7,8,10,11,61,62,63,99,100,101],[1,2,5,7,8,146,147,148],[1,2,5,7,8,15,16,146,147,148,155,156,157],[2,5,174,175,176]].getD k []) (fun _ => []) 400 (.fork (.fork (.hd 4) (.hd 4)) (.fork .stop (.hd 3))) (V := fun G R => (decide (t < (↑l.length : Int)) = true → (0 : Int) ≤ t ∧ t < (↑l.length : Int) ∧ (false = true → SameK (KK n17 4) (KK n17 4) ∧ G 4 (stOf 196 [1, 2, 5, 7, 8, 15, 16, 146, 147, 148, 155, 156, 157] [D.sl false false (Ty.int IntKind.i64) P, D.ptr 0 0 0, D.ptr 1 0 0, D.sl false false ((Ty.int IntKind.i64).prod (Ty.bool.prod (Ty.int IntKind.i64).sl)) S, D.own 2 0 n (some n), D.v (Value.int IntKind.i64 i), D.v (Value.bool true), D.sl false false ((Ty.int IntKind.i64).prod (Ty.bool.prod (Ty.int IntKind.i64).sl)) S, D.v (Value.int IntKind.i64 (↑S.length : Int)), D.v (Value.int IntKind.i64 i), D.sl false false (Ty.int IntKind.i64) l, D.v (Value.int IntKind.i64 (↑l.length : Int)), D.v (Value.int IntKind.i64 (IntKind.i64.wrap (t + (1 : Int))))] [Slot.live (Row.box 68 [D.v (Value.int IntKind.i64 g.h), D.v (Value.int IntKind.i64 g.w), D.sl false false Ty.bool g.B, D.sl false false Ty.bool g.R, D.sl false false Ty.bool g.L, D.sl false false (Ty.int IntKind.i64).sl W, D.sl false false (Ty.int IntKind.u64) (Mi M)]), Slot.live (Row.box 71 [D.sl false false (Ty.int IntKind.u64) (Mi m), D.sl false false (Ty.int IntKind.i64).sl ws, D.v (Value.bool o)]), Slot.live (Row.data 3 (Ty.int IntKind.i64) ls)])) ∧ (false = false → (0 : Int) ≤ i ∧ i < (↑P.length : Int) ∧ SameK (KK n17 4) (KK n17 4) ∧ G 4 (stOf 196 [1, 2, 5, 7, 8, 15, 16, 146, 147, 148, 155, 156, 157] [D.sl false false (Ty.int IntKind.i64) P, D.ptr 0 0 0, D.ptr 1 0 0, D.sl false false ((Ty.int IntKind.i64).prod (Ty.bool.prod (Ty.int IntKind.i64).sl)) S, D.own 2 0 n (some n), D.v (Value.int IntKind.i64 i), D.v (Value.bool (l.getD t.toNat (Ty.int IntKind.i64).dflt == P.getD i.toNat (Ty.int IntKind.i64).dflt)), D.sl false false ((Ty.int IntKind.i64).prod (Ty.bool.prod (Ty.int IntKind.i64).sl)) S, D.v (Value.int IntKind.i64 (↑S.length : Int)), D.v (Value.int IntKind.i64 i), D.sl false false (Ty.int IntKind.i64) l, D.v (Value.int IntKind.i64 (↑l.length : Int)), D.v (Value.int IntKind.i64 (IntKind.i64.wrap (t + (1 : Int))))] [Slot.live (Row.box 68 [D.v (Value.int IntKind.i64 g.h), D.v (Value.int IntKind.i64 g.w), D.sl false false Ty.bool g.B, D.sl false false Ty.bool g.R, D.sl false false Ty.bool g.L, D.sl false false (Ty.int IntKind.i64).sl W, D.sl false false (Ty.int IntKind.u64) (Mi M)]), Slot.live (Row.box 71 [D.sl false false (Ty.int IntKind.u64) (Mi m), D.sl false false (Ty.int IntKind.i64).sl ws, D.v (Value.bool o)]), Slot.live (Row.data 3 (Ty.int IntKind.i64) ls)]))) ∧ (decide (t < (↑l.length : Int)) = false → ((!false) = true → R (D.v (Value.bool false), [], [])) ∧ ((!false) = false → SameK (KK n17 3) (KK n17 3) ∧ G 3 (stOf 196 [1, 2, 5, 7, 8, 146, 147, 148] [D.sl false false (Ty.int IntKind.i64) P, D.ptr 0 0 0, D.ptr 1 0 0, D.sl false false ((Ty.int IntKind.i64).prod (Ty.bool.prod (Ty.int IntKind.i64).sl)) S, D.own 2 0 n (some n), D.sl false false ((Ty.int IntKind.i64).prod (Ty.bool.prod (Ty.int IntKind.i64).sl)) S, D.v (Value.int IntKind.i64 (↑S.length : Int)), D.v (Value.int IntKind.i64 (IntKind.i64.wrap (i + (1 : Int))))] [Slot.live (Row.box 68 [D.v (Value.int IntKind.i64 g.h), D.v (Value.int IntKind.i64 g.w), D.sl false false Ty.bool g.B, D.sl false false Ty.bool g.R, D.sl false false Ty.bool g.L, D.sl false false (Ty.int IntKind.i64).sl W, D.sl false false (Ty.int IntKind.u64) (Mi M)]), Slot.live (Row.box 71 [D.sl false false (Ty.int IntKind.u64) (Mi m), D.sl false false (Ty.int IntKind.i64).sl ws, D.v (Value.bool o)]), Slot.live (Row.data 3 (Ty.int IntKind.i64) ls)])))) hmG (fun G R => by kernel_rfl) ?_
      simp only [Ty.dflt, hk1]
      simp (disch := omega) only [wrG, sameK_iff, true_and, and_true, decide_eq_true_eq, decide_eq_false_iff_not, ne_eq, not_false_eq_true, Bool.false_eq_true, Bool.true_eq_false, false_implies, true_implies, Ty.dflt, reduceCtorEq, beq_iff_eq, bne_iff_ne, beq_eq_false_iff_ne, bne_eq_false_iff_eq, Bool.not_eq_true, Bool.not_eq_eq_eq_not, Bool.not_true, Bool.not_false, gt_iff_lt, ge_iff_le, Int.not_lt, Int.not_le]
      repeat' (first | with_reducible refine And.intro ?_ ?_ | intro _)
      all_goals first | rfl | omega | assumption | trivial | (exfalso; simp_all; done) | (exfalso; omega) | skip
def vq26 (g : Gr) (W : List (List Int)) (M : List Nat) (m : List Nat) (ws : List (List Int)) (o : Bool) (S : List Slt) (P : List Int) (ls : List Int) (n : Nat) (i : Int) (G : Nat → St → Prop) (R : D × List (Option Row) × List Row → Prop) : Prop := (decide (i < (↑S.length : Int)) = true → (0 : Int) ≤ i ∧ i < (↑ws.length : Int) ∧ SameK (KK n17 4) (KK n17 4) ∧ G 4 (stOf 196 [1, 2, 5, 7, 8, 15, 16, 146, 147, 148, 155, 156, 157] [D.sl false false (Ty.int IntKind.i64) P, D.ptr 0 0 0, D.ptr 1 0 0, D.sl false false ((Ty.int IntKind.i64).prod (Ty.bool.prod (Ty.int IntKind.i64).sl)) S, D.own 2 0 n (some n), D.v (Value.int IntKind.i64 i), D.v (Value.bool false), D.sl false false ((Ty.int IntKind.i64).prod (Ty.bool.prod (Ty.int IntKind.i64).sl)) S, D.v (Value.int IntKind.i64 (↑S.length : Int)), D.v (Value.int IntKind.i64 i), D.sl false false (Ty.int IntKind.i64) (ws.getD i.toNat (Ty.int IntKind.i64).sl.dflt), D.v (Value.int IntKind.i64 (↑(List.length (ws.getD i.toNat (Ty.int IntKind.i64).sl.dflt)) : Int)), D.v (Value.int IntKind.i64 (0 : Int))] [Slot.live (Row.box 68 [D.v (Value.int IntKind.i64 g.h), D.v (Value.int IntKind.i64 g.w), D.sl false false Ty.bool g.B, D.sl false false Ty.bool g.R, D.sl false false Ty.bool g.L, D.sl false false (Ty.int IntKind.i64).sl W, D.sl false false (Ty.int IntKind.u64) (Mi M)]), Slot.live (Row.box 71 [D.sl false false (Ty.int IntKind.u64) (Mi m), D.sl false false (Ty.int IntKind.i64).sl ws, D.v (Value.bool o)]), Slot.live (Row.data 3 (Ty.int IntKind.i64) ls)])) ∧ (decide (i < (↑S.length : Int)) = false → SameK (KK n17 5) (KK n17 5) ∧ G 5 (stOf 196 [2, 5, 174, 175, 176] [D.ptr 0 0 0, D.ptr 1 0 0, D.own 2 0 n (some n), D.v (Value.int IntKind.i64 (↑n : Int)), D.v (Value.int IntKind.i64 (0 : Int))] [Slot.live (Row.box 68 [D.v (Value.int IntKind.i64 g.h), D.v (Value.int IntKind.i64 g.w), D.sl false false Ty.bool g.B, D.sl false false Ty.bool g.R, D.sl false false Ty.bool g.L, D.sl false false (Ty.int IntKind.i64).sl W, D.sl false false (Ty.int IntKind.u64) (Mi M)]), Slot.live (Row.box 71 [D.sl false false (Ty.int IntKind.u64) (Mi m), D.sl false false (Ty.int IntKind.i64).sl ws, D.v (Value.bool o)]), Slot.live (Row.data 3 (Ty.int IntKind.i64) ls)]))
theorem e17d (g : Gr) (W : List (List Int)) (M : List Nat) (m : List Nat) (ws : List (List Int)) (o : Bool) (S : List Slt) (P : List Int) (ls : List Int) (n : Nat) (hS : S.length ≤ 1000) (hP : S.length ≤ P.length) (hws : ws.length = S.length) (hW : ∀ j : Nat, j < S.length → (ws.getD j []).length ≤ 1000 ∧ P.getD j 0 ∈ ws.getD j []) (hx : GetsK Try.prog Try.f17.results.toList [none] (KK n17) 0 (.v (.bool true), [], []) 5 (stOf 196 [2,5,174,175,176] [.ptr 0 0 0, .ptr 1 0 0, .own 2 0 n (some n), .v (.int .i64 n), .v (.int .i64 0)] [.live (.box 68 [.v (.int .i64 g.h), .v (.int .i64 g.w), .sl false false .bool g.B, .sl false false .bool g.R, .sl false false .bool g.L, slW W, slU M]), .live (.box 71 [slU m, slW ws, .v (.bool o)]), .live (.data 3 (.int .i64) ls)])) (z : Nat) : ∀ (i : Int), 0 ≤ i → i + z = S.length → GetsK Try.prog Try.f17.results.toList [none] (KK n17) 0 (.v (.bool true), [], []) 3 (stOf 196 [1,2,5,7,8,146,147,148] [slI P, .ptr 0 0 0, .ptr 1 0 0, slS S, .own 2 0 n (some n), slS S, .v (.int .i64 S.length), .v (.int .i64 i)] [.live (.box 68 [.v (.int .i64 g.h), .v (.int .i64 g.w), .sl false false .bool g.B, .sl false false .bool g.R, .sl false false .bool g.L, slW W, slU M]), .live (.box 71 [slU m, slW ws, .v (.bool o)]), .live (.data 3 (.int .i64) ls)]) := by
  induction z with
  | zero =>
    intro i i0 hi
    refine gets_vc spNc (fun k => [[1,2,5,7,8,52,53,54],[1,2,5,7,8,61,62,63],[1,2,5,7,8,10,11,61,62,63,99,100,101],[1,2,5,7,8,146,147,148],[1,2,5,7,8,15,16,146,147,148,155,156,157],[2,5,174,175,176]].getD k []) (fun _ => []) 400 (.fork (.hd 4) (.hd 5)) (V := vq26 g W M m ws o S P ls n i) hmG (fun G R => by kernel_rfl) ?_
    unfold vq26
    simp (disch := omega) only [wrG, sameK_iff, true_and, and_true, decide_eq_true_eq, decide_eq_false_iff_not, ne_eq, not_false_eq_true, Bool.false_eq_true, Bool.true_eq_false, false_implies, true_implies, Ty.dflt, reduceCtorEq, beq_iff_eq, bne_iff_ne, beq_eq_false_iff_ne, bne_eq_false_iff_eq, Bool.not_eq_true, Bool.not_eq_eq_eq_not, Bool.not_true, Bool.not_false, gt_iff_lt, ge_iff_le, Int.not_lt, Int.not_le]
    repeat' (first | with_reducible refine And.intro ?_ ?_ | intro _)
    all_goals first | rfl | omega | assumption | trivial | (exfalso; simp_all; done) | (exfalso; omega) | skip
  | succ z ih =>
    intro i i0 hi
    have hq := hW i.toNat (by omega)
    have h1 := e17e g W M m ws o S P ls n i (ws.getD i.toNat []) i0 (by omega) hq.1 (ih (i + 1) (by omega) (by omega)) (wrG (by omega) (by omega)) (ws.getD i.toNat []).length 0 false (by omega) (by omega) (Or.inr hq.2)
    refine gets_vc spNc (fun k => [[1,2,5,7,8,52,53,54],[1,2,5,7,8,61,62,63],[1,2,5,7,8,10,11,61,62,63,99,100,101],[1,2,5,7,8,146,147,148],[1,2,5,7,8,15,16,146,147,148,155,156,157],[2,5,174,175,176]].getD k []) (fun _ => []) 400 (.fork (.hd 4) (.hd 5)) (V := vq26 g W M m ws o S P ls n i) hmG (fun G R => by kernel_rfl) ?_
    unfold vq26
    simp only [Ty.dflt]
    simp (disch := omega) only [wrG, sameK_iff, true_and, and_true, decide_eq_true_eq, decide_eq_false_iff_not, ne_eq, not_false_eq_true, Bool.false_eq_true, Bool.true_eq_false, false_implies, true_implies, Ty.dflt, reduceCtorEq, beq_iff_eq, bne_iff_ne, beq_eq_false_iff_ne, bne_eq_false_iff_eq, Bool.not_eq_true, Bool.not_eq_eq_eq_not, Bool.not_true, Bool.not_false, gt_iff_lt, ge_iff_le, Int.not_lt, Int.not_le]
    repeat' (first | with_reducible refine And.intro ?_ ?_ | intro _)
    all_goals first | rfl | omega | assumption | trivial | (exfalso; simp_all; done) | (exfalso; omega) | skip
def vq27 (g : Gr) (W : List (List Int)) (M : List Nat) (m : List Nat) (ws : List (List Int)) (o : Bool) (S : List Slt) (P : List Int) (n : Nat) (i : Int) (num : Int) (dn : Bool) (C : List Int) (k : Int) (ls : List Int) (G : Nat → St → Prop) (R : D × List (Option Row) × List Row → Prop) : Prop := (decide (k < (↑C.length : Int)) = true → (0 : Int) ≤ k ∧ k < (↑C.length : Int) ∧ (0 : Int) ≤ i ∧ i < (↑P.length : Int) ∧ (0 : Int) ≤ P.getD i.toNat (Ty.int IntKind.i64).dflt ∧ P.getD i.toNat (Ty.int IntKind.i64).dflt < (↑W.length : Int) ∧ (0 : Int) ≤ k ∧ k < (↑(List.length (W.getD (Int.toNat (P.getD i.toNat (Ty.int IntKind.i64).dflt)) (Ty.int IntKind.i64).sl.dflt)) : Int) ∧ (0 : Int) ≤ C.getD k.toNat (Ty.int IntKind.i64).dflt ∧ C.getD k.toNat (Ty.int IntKind.i64).dflt < (↑n : Int) ∧ 0 + Int.toNat (C.getD k.toNat (Ty.int IntKind.i64).dflt) < ls.length ∧ (decide (ls.getD (0 + Int.toNat (C.getD k.toNat (Ty.int IntKind.i64).dflt)) (Ty.int IntKind.i64).dflt ≥ (0 : Int)) = true → (0 : Int) ≤ C.getD k.toNat (Ty.int IntKind.i64).dflt ∧ C.getD k.toNat (Ty.int IntKind.i64).dflt < (↑n : Int) ∧ 0 + Int.toNat (C.getD k.toNat (Ty.int IntKind.i64).dflt) < ls.length ∧ ((ls.getD (0 + Int.toNat (C.getD k.toNat (Ty.int IntKind.i64).dflt)) (Ty.int IntKind.i64).dflt != List.getD (W.getD (Int.toNat (P.getD i.toNat (Ty.int IntKind.i64).dflt)) (Ty.int IntKind.i64).sl.dflt) k.toNat (Ty.int IntKind.i64).dflt) = true → true = true ∧ R (D.v (Value.bool true), [], [])) ∧ ((ls.getD (0 + Int.toNat (C.getD k.toNat (Ty.int IntKind.i64).dflt)) (Ty.int IntKind.i64).dflt != List.getD (W.getD (Int.toNat (P.getD i.toNat (Ty.int IntKind.i64).dflt)) (Ty.int IntKind.i64).sl.dflt) k.toNat (Ty.int IntKind.i64).dflt) = false → (0 : Int) ≤ C.getD k.toNat (Ty.int IntKind.i64).dflt ∧ C.getD k.toNat (Ty.int IntKind.i64).dflt < (↑(Mi M).length : Int) ∧ Con Try.prog 66 [] [D.v (Value.int IntKind.u64 ((Mi M).getD (Int.toNat (C.getD k.toNat (Ty.int IntKind.i64).dflt)) (Ty.int IntKind.u64).dflt)), D.v (Value.int IntKind.i64 (List.getD (W.getD (Int.toNat (P.getD i.toNat (Ty.int IntKind.i64).dflt)) (Ty.int IntKind.i64).sl.dflt) k.toNat (Ty.int IntKind.i64).dflt))] (D.v (Value.bool (hasN (Int.toNat ((Mi M).getD (Int.toNat (C.getD k.toNat (Ty.int IntKind.i64).dflt)) (Ty.int IntKind.u64).dflt)) (List.getD (W.getD (Int.toNat (P.getD i.toNat (Ty.int IntKind.i64).dflt)) (Ty.int IntKind.i64).sl.dflt) k.toNat (Ty.int IntKind.i64).dflt)))) [] [] ∧ Value.int IntKind.u64 ((Mi M).getD (Int.toNat (C.getD k.toNat (Ty.int IntKind.i64).dflt)) (Ty.int IntKind.u64).dflt) = Value.int IntKind.u64 ((Mi M).getD (Int.toNat (C.getD k.toNat (Ty.int IntKind.i64).dflt)) (Ty.int IntKind.u64).dflt) ∧ Value.int IntKind.i64 (List.getD (W.getD (Int.toNat (P.getD i.toNat (Ty.int IntKind.i64).dflt)) (Ty.int IntKind.i64).sl.dflt) k.toNat (Ty.int IntKind.i64).dflt) = Value.int IntKind.i64 (List.getD (W.getD (Int.toNat (P.getD i.toNat (Ty.int IntKind.i64).dflt)) (Ty.int IntKind.i64).sl.dflt) k.toNat (Ty.int IntKind.i64).dflt) ∧ ((!hasN (Int.toNat ((Mi M).getD (Int.toNat (C.getD k.toNat (Ty.int IntKind.i64).dflt)) (Ty.int IntKind.u64).dflt)) (List.getD (W.getD (Int.toNat (P.getD i.toNat (Ty.int IntKind.i64).dflt)) (Ty.int IntKind.i64).sl.dflt) k.toNat (Ty.int IntKind.i64).dflt)) = true → R (D.v (Value.bool true), [], [])) ∧ ((!hasN (Int.toNat ((Mi M).getD (Int.toNat (C.getD k.toNat (Ty.int IntKind.i64).dflt)) (Ty.int IntKind.u64).dflt)) (List.getD (W.getD (Int.toNat (P.getD i.toNat (Ty.int IntKind.i64).dflt)) (Ty.int IntKind.i64).sl.dflt) k.toNat (Ty.int IntKind.i64).dflt)) = false → (0 : Int) ≤ C.getD k.toNat (Ty.int IntKind.i64).dflt ∧ C.getD k.toNat (Ty.int IntKind.i64).dflt < (↑n : Int) ∧ 0 + Int.toNat (C.getD k.toNat (Ty.int IntKind.i64).dflt) < ls.length ∧ SameK (KK n17 2) (KK n17 2) ∧ G 2 (stOf 196 [1, 2, 5, 7, 8, 10, 11, 61, 62, 63, 99, 100, 101] [D.sl false false (Ty.int IntKind.i64) P, D.ptr 0 0 0, D.ptr 1 0 0, D.sl false false ((Ty.int IntKind.i64).prod (Ty.bool.prod (Ty.int IntKind.i64).sl)) S, D.own 2 0 n (some n), D.v (Value.int IntKind.i64 i), D.ptr 3 0 0, D.sl false false ((Ty.int IntKind.i64).prod (Ty.bool.prod (Ty.int IntKind.i64).sl)) S, D.v (Value.int IntKind.i64 (↑S.length : Int)), D.v (Value.int IntKind.i64 i), D.sl false false (Ty.int IntKind.i64) C, D.v (Value.int IntKind.i64 (↑C.length : Int)), D.v (Value.int IntKind.i64 (IntKind.i64.wrap (k + (1 : Int))))] [Slot.live (Row.box 68 [D.v (Value.int IntKind.i64 g.h), D.v (Value.int IntKind.i64 g.w), D.sl false false Ty.bool g.B, D.sl false false Ty.bool g.R, D.sl false false Ty.bool g.L, D.sl false false (Ty.int IntKind.i64).sl W, D.sl false false (Ty.int IntKind.u64) (Mi M)]), Slot.live (Row.box 71 [D.sl false false (Ty.int IntKind.u64) (Mi m), D.sl false false (Ty.int IntKind.i64).sl ws, D.v (Value.bool o)]), Slot.live (Row.data 3 (Ty.int IntKind.i64) (ls.set (0 + Int.toNat (C.getD k.toNat (Ty.int IntKind.i64).dflt)) (List.getD (W.getD (Int.toNat (P.getD i.toNat (Ty.int IntKind.i64).dflt)) (Ty.int IntKind.i64).sl.dflt) k.toNat (Ty.int IntKind.i64).dflt))), Slot.live (Row.box 86 [D.v (Value.int IntKind.i64 num), D.v (Value.bool dn), D.sl false false (Ty.int IntKind.i64) C])])))) ∧ (decide (ls.getD (0 + Int.toNat (C.getD k.toNat (Ty.int IntKind.i64).dflt)) (Ty.int IntKind.i64).dflt ≥ (0 : Int)) = false → false = false ∧ (0 : Int) ≤ C.getD k.toNat (Ty.int IntKind.i64).dflt ∧ C.getD k.toNat (Ty.int IntKind.i64).dflt < (↑(Mi M).length : Int) ∧ Con Try.prog 66 [] [D.v (Value.int IntKind.u64 ((Mi M).getD (Int.toNat (C.getD k.toNat (Ty.int IntKind.i64).dflt)) (Ty.int IntKind.u64).dflt)), D.v (Value.int IntKind.i64 (List.getD (W.getD (Int.toNat (P.getD i.toNat (Ty.int IntKind.i64).dflt)) (Ty.int IntKind.i64).sl.dflt) k.toNat (Ty.int IntKind.i64).dflt))] (D.v (Value.bool (hasN (Int.toNat ((Mi M).getD (Int.toNat (C.getD k.toNat (Ty.int IntKind.i64).dflt)) (Ty.int IntKind.u64).dflt)) (List.getD (W.getD (Int.toNat (P.getD i.toNat (Ty.int IntKind.i64).dflt)) (Ty.int IntKind.i64).sl.dflt) k.toNat (Ty.int IntKind.i64).dflt)))) [] [] ∧ Value.int IntKind.u64 ((Mi M).getD (Int.toNat (C.getD k.toNat (Ty.int IntKind.i64).dflt)) (Ty.int IntKind.u64).dflt) = Value.int IntKind.u64 ((Mi M).getD (Int.toNat (C.getD k.toNat (Ty.int IntKind.i64).dflt)) (Ty.int IntKind.u64).dflt) ∧ Value.int IntKind.i64 (List.getD (W.getD (Int.toNat (P.getD i.toNat (Ty.int IntKind.i64).dflt)) (Ty.int IntKind.i64).sl.dflt) k.toNat (Ty.int IntKind.i64).dflt) = Value.int IntKind.i64 (List.getD (W.getD (Int.toNat (P.getD i.toNat (Ty.int IntKind.i64).dflt)) (Ty.int IntKind.i64).sl.dflt) k.toNat (Ty.int IntKind.i64).dflt) ∧ ((!hasN (Int.toNat ((Mi M).getD (Int.toNat (C.getD k.toNat (Ty.int IntKind.i64).dflt)) (Ty.int IntKind.u64).dflt)) (List.getD (W.getD (Int.toNat (P.getD i.toNat (Ty.int IntKind.i64).dflt)) (Ty.int IntKind.i64).sl.dflt) k.toNat (Ty.int IntKind.i64).dflt)) = true → R (D.v (Value.bool true), [], [])) ∧ ((!hasN (Int.toNat ((Mi M).getD (Int.toNat (C.getD k.toNat (Ty.int IntKind.i64).dflt)) (Ty.int IntKind.u64).dflt)) (List.getD (W.getD (Int.toNat (P.getD i.toNat (Ty.int IntKind.i64).dflt)) (Ty.int IntKind.i64).sl.dflt) k.toNat (Ty.int IntKind.i64).dflt)) = false → (0 : Int) ≤ C.getD k.toNat (Ty.int IntKind.i64).dflt ∧ C.getD k.toNat (Ty.int IntKind.i64).dflt < (↑n : Int) ∧ 0 + Int.toNat (C.getD k.toNat (Ty.int IntKind.i64).dflt) < ls.length ∧ SameK (KK n17 2) (KK n17 2) ∧ G 2 (stOf 196 [1, 2, 5, 7, 8, 10, 11, 61, 62, 63, 99, 100, 101] [D.sl false false (Ty.int IntKind.i64) P, D.ptr 0 0 0, D.ptr 1 0 0, D.sl false false ((Ty.int IntKind.i64).prod (Ty.bool.prod (Ty.int IntKind.i64).sl)) S, D.own 2 0 n (some n), D.v (Value.int IntKind.i64 i), D.ptr 3 0 0, D.sl false false ((Ty.int IntKind.i64).prod (Ty.bool.prod (Ty.int IntKind.i64).sl)) S, D.v (Value.int IntKind.i64 (↑S.length : Int)), D.v (Value.int IntKind.i64 i), D.sl false false (Ty.int IntKind.i64) C, D.v (Value.int IntKind.i64 (↑C.length : Int)), D.v (Value.int IntKind.i64 (IntKind.i64.wrap (k + (1 : Int))))] [Slot.live (Row.box 68 [D.v (Value.int IntKind.i64 g.h), D.v (Value.int IntKind.i64 g.w), D.sl false false Ty.bool g.B, D.sl false false Ty.bool g.R, D.sl false false Ty.bool g.L, D.sl false false (Ty.int IntKind.i64).sl W, D.sl false false (Ty.int IntKind.u64) (Mi M)]), Slot.live (Row.box 71 [D.sl false false (Ty.int IntKind.u64) (Mi m), D.sl false false (Ty.int IntKind.i64).sl ws, D.v (Value.bool o)]), Slot.live (Row.data 3 (Ty.int IntKind.i64) (ls.set (0 + Int.toNat (C.getD k.toNat (Ty.int IntKind.i64).dflt)) (List.getD (W.getD (Int.toNat (P.getD i.toNat (Ty.int IntKind.i64).dflt)) (Ty.int IntKind.i64).sl.dflt) k.toNat (Ty.int IntKind.i64).dflt))), Slot.live (Row.box 86 [D.v (Value.int IntKind.i64 num), D.v (Value.bool dn), D.sl false false (Ty.int IntKind.i64) C])])))) ∧ (decide (k < (↑C.length : Int)) = false → SameK (KK n17 1) (KK n17 1) ∧ G 1 (stOf 196 [1, 2, 5, 7, 8, 61, 62, 63] [D.sl false false (Ty.int IntKind.i64) P, D.ptr 0 0 0, D.ptr 1 0 0, D.sl false false ((Ty.int IntKind.i64).prod (Ty.bool.prod (Ty.int IntKind.i64).sl)) S, D.own 2 0 n (some n), D.sl false false ((Ty.int IntKind.i64).prod (Ty.bool.prod (Ty.int IntKind.i64).sl)) S, D.v (Value.int IntKind.i64 (↑S.length : Int)), D.v (Value.int IntKind.i64 (IntKind.i64.wrap (i + (1 : Int))))] [Slot.live (Row.box 68 [D.v (Value.int IntKind.i64 g.h), D.v (Value.int IntKind.i64 g.w), D.sl false false Ty.bool g.B, D.sl false false Ty.bool g.R, D.sl false false Ty.bool g.L, D.sl false false (Ty.int IntKind.i64).sl W, D.sl false false (Ty.int IntKind.u64) (Mi M)]), Slot.live (Row.box 71 [D.sl false false (Ty.int IntKind.u64) (Mi m), D.sl false false (Ty.int IntKind.i64).sl ws, D.v (Value.bool o)]), Slot.live (Row.data 3 (Ty.int IntKind.i64) ls)]))
theorem e17c (g : Gr) (W : List (List Int)) (M : List Nat) (m : List Nat) (ws : List (List Int)) (o : Bool) (S : List Slt) (P : List Int) (n : Nat) (i : Int) (num : Int) (dn : Bool) (C : List Int) (hM : Smalls M) (hMn : M.length = n) (hn : n ≤ 17592186044416) (hS : slotsF g = S) (i0 : 0 ≤ i) (i1 : i < S.length) (hP : S.length ≤ P.length) (hC : (sAtN S i.toNat).2.2 = C) (hCl : C.length ≤ 300) (hCn : ∀ c ∈ C, 0 ≤ c ∧ c < n) (hii : IntKind.i64.wrap (i + 1) = i + 1)
    (hw : 0 ≤ P.getD i.toNat 0 ∧ P.getD i.toNat 0 < W.length ∧ (W.getD (P.getD i.toNat 0).toNat []).length = C.length) (hx : ∀ ls, Picked ⟨g, W, M⟩ P (i.toNat + 1) ls → GetsK Try.prog Try.f17.results.toList [none] (KK n17) 0 (.v (.bool true), [], []) 1 (stOf 196 [1,2,5,7,8,61,62,63] [slI P, .ptr 0 0 0, .ptr 1 0 0, slS S, .own 2 0 n (some n), slS S, .v (.int .i64 S.length), .v (.int .i64 (i + 1))] [.live (.box 68 [.v (.int .i64 g.h), .v (.int .i64 g.w), .sl false false .bool g.B, .sl false false .bool g.R, .sl false false .bool g.L, slW W, slU M]), .live (.box 71 [slU m, slW ws, .v (.bool o)]), .live (.data 3 (.int .i64) ls)])) (z : Nat) : ∀ (k : Int) (ls : List Int), 0 ≤ k → k + z = C.length → PickK ⟨g, W, M⟩ P i.toNat k.toNat ls → GetsK Try.prog Try.f17.results.toList [none] (KK n17) 0 (.v (.bool true), [], []) 2 (stOf 196 [1,2,5,7,8,10,11,61,62,63,99,100,101] [slI P, .ptr 0 0 0, .ptr 1 0 0, slS S, .own 2 0 n (some n), .v (.int .i64 i), .ptr 3 0 0, slS S, .v (.int .i64 S.length), .v (.int .i64 i), slI C, .v (.int .i64 C.length), .v (.int .i64 k)] [.live (.box 68 [.v (.int .i64 g.h), .v (.int .i64 g.w), .sl false false .bool g.B, .sl false false .bool g.R, .sl false false .bool g.L, slW W, slU M]), .live (.box 71 [slU m, slW ws, .v (.bool o)]), .live (.data 3 (.int .i64) ls), .live (.box 86 [.v (.int .i64 num), .v (.bool dn), slI C])]) := by
  induction z with
  | zero =>
    intro k ls k0 hk hq
    have hkC : k.toNat = C.length := by omega
    rw [hkC] at hq
    have h1 := hx ls (PickK.done (by simp only [hS, hC]; exact hq) (by simp only [hS, hC]; exact hw))
    refine gets_vc spNc (fun k => [[1,2,5,7,8,52,53,54],[1,2,5,7,8,61,62,63],[1,2,5,7,8,10,11,61,62,63,99,100,101],[1,2,5,7,8,146,147,148],[1,2,5,7,8,15,16,146,147,148,155,156,157],[2,5,174,175,176]].getD k []) (fun _ => []) 400 (.fork (.fork (.fork (.t .stop) (.fork .stop (.hd 2))) (.f (.fork .stop (.hd 2)))) (.hd 1)) (V := vq27 g W M m ws o S P n i num dn C k ls) hmG (fun G R => by kernel_rfl) ?_
    unfold vq27
    simp only [hii]
    simp (disch := omega) only [wrG, sameK_iff, true_and, and_true, decide_eq_true_eq, decide_eq_false_iff_not, ne_eq, not_false_eq_true, Bool.false_eq_true, Bool.true_eq_false, false_implies, true_implies, Ty.dflt, reduceCtorEq, beq_iff_eq, bne_iff_ne, beq_eq_false_iff_ne, bne_eq_false_iff_eq, Bool.not_eq_true, Bool.not_eq_eq_eq_not, Bool.not_true, Bool.not_false, gt_iff_lt, ge_iff_le, Int.not_lt, Int.not_le]
    repeat' (first | with_reducible refine And.intro ?_ ?_ | intro _)
    all_goals first | rfl | omega | assumption | trivial | (exfalso; simp_all; done) | (exfalso; omega) | skip
  | succ z ih =>
    intro k ls k0 hk hq
    have hk1 : IntKind.i64.wrap (k + 1) = k + 1 := wrG (by omega) (by omega)
    have hkt : (k + 1).toNat = k.toNat + 1 := by omega
    have hll : ls.length = n := by have := hq.all.len; simp only at this; omega
    obtain ⟨c, hcc⟩ : ∃ c, C.getD k.toNat 0 = c := ⟨_, rfl⟩
    have hcn := hCn c (by rw [← hcc]; exact getD_in (by omega))
    obtain ⟨pw, hpw⟩ : ∃ pw, P.getD i.toNat 0 = pw := ⟨_, rfl⟩
    obtain ⟨w, hww⟩ : ∃ w, W.getD pw.toNat [] = w := ⟨_, rfl⟩
    rw [hpw, hww] at hw
    obtain ⟨y, hy⟩ : ∃ y, w.getD k.toNat 0 = y := ⟨_, rfl⟩
    have c1 := d66 (M.getD c.toNat 0) y (hM.at _)
    have hstep := fun (hh : hasN (M.getD c.toNat 0) y = true) (ho : 0 ≤ ls.getD c.toNat 0 → ls.getD c.toNat 0 = y) => ih (k + 1) (ls.set c.toNat y) (by omega) (by omega) (by
      rw [hkt]
      exact hq.step (by simp only [hS]; omega) (by simp only [hS, hC]; omega) (by simp only [hS, hC]; exact hcc) (by simp only [wordAt, hpw, hww]; exact hy) (by omega) hh ho)
    refine gets_vc spNc (fun k => [[1,2,5,7,8,52,53,54],[1,2,5,7,8,61,62,63],[1,2,5,7,8,10,11,61,62,63,99,100,101],[1,2,5,7,8,146,147,148],[1,2,5,7,8,15,16,146,147,148,155,156,157],[2,5,174,175,176]].getD k []) (fun _ => []) 400 (.fork (.fork (.fork (.t .stop) (.fork .stop (.hd 2))) (.f (.fork .stop (.hd 2)))) (.hd 1)) (V := vq27 g W M m ws o S P n i num dn C k ls) hmG (fun G R => by kernel_rfl) ?_
    unfold vq27
    simp only [Ty.dflt, hk1, hcc, hpw, hww, hy, take_len, List.drop_zero, List.take_length, Mi_getD, Mi_len, Nt_Mi, Int.toNat_natCast, Mi_set, Nat.zero_add, Nat.sub_zero, List.length_set, take_one, takeSn, List.take_zero, List.nil_append, List.length_append, List.length_cons, List.length_nil]
    cases hh : hasN (M.getD c.toNat 0) y with
    | false =>
      rw [hh] at c1
      simp (disch := omega) only [wrG, sameK_iff, true_and, and_true, decide_eq_true_eq, decide_eq_false_iff_not, ne_eq, not_false_eq_true, Bool.false_eq_true, Bool.true_eq_false, false_implies, true_implies, Ty.dflt, reduceCtorEq, beq_iff_eq, bne_iff_ne, beq_eq_false_iff_ne, bne_eq_false_iff_eq, Bool.not_eq_true, Bool.not_eq_eq_eq_not, Bool.not_true, Bool.not_false, gt_iff_lt, ge_iff_le, Int.not_lt, Int.not_le]
      repeat' (first | with_reducible refine And.intro ?_ ?_ | intro _)
      all_goals first | rfl | omega | assumption | trivial | (exfalso; simp_all; done) | (exfalso; omega) | skip
    | true =>
      rw [hh] at c1
      by_cases ho : 0 ≤ ls.getD c.toNat 0 → ls.getD c.toNat 0 = y
      · have h1 := hstep hh ho
        simp (disch := omega) only [wrG, sameK_iff, true_and, and_true, decide_eq_true_eq, decide_eq_false_iff_not, ne_eq, not_false_eq_true, Bool.false_eq_true, Bool.true_eq_false, false_implies, true_implies, Ty.dflt, reduceCtorEq, beq_iff_eq, bne_iff_ne, beq_eq_false_iff_ne, bne_eq_false_iff_eq, Bool.not_eq_true, Bool.not_eq_eq_eq_not, Bool.not_true, Bool.not_false, gt_iff_lt, ge_iff_le, Int.not_lt, Int.not_le]
        repeat' (first | with_reducible refine And.intro ?_ ?_ | intro _)
        all_goals first | rfl | omega | assumption | trivial | (exfalso; simp_all; done) | (exfalso; omega) | skip
      · have h2 : (0 : Int) ≤ ls.getD c.toNat 0 ∧ (ls.getD c.toNat 0 != y) = true := by
          refine ⟨by omega, ?_⟩
          rw [bne_iff_ne]
          omega
        have h3 : decide (ls.getD c.toNat 0 ≥ 0) = true := decide_eq_true h2.1
        simp only [h2.2, h3]
        simp (disch := omega) only [wrG, sameK_iff, true_and, and_true, decide_eq_true_eq, decide_eq_false_iff_not, ne_eq, not_false_eq_true, Bool.false_eq_true, Bool.true_eq_false, false_implies, true_implies, Ty.dflt, reduceCtorEq, beq_iff_eq, bne_iff_ne, beq_eq_false_iff_ne, bne_eq_false_iff_eq, Bool.not_eq_true, Bool.not_eq_eq_eq_not, Bool.not_true, Bool.not_false, gt_iff_lt, ge_iff_le, Int.not_lt, Int.not_le]
        repeat' (first | with_reducible refine And.intro ?_ ?_ | intro _)
        all_goals first | rfl | omega | assumption | trivial | (exfalso; simp_all; done) | (exfalso; omega) | skip
def vq28 (g : Gr) (W : List (List Int)) (M : List Nat) (m : List Nat) (ws : List (List Int)) (o : Bool) (S : List Slt) (P : List Int) (n : Nat) (i : Int) (ls : List Int) (G : Nat → St → Prop) (R : D × List (Option Row) × List Row → Prop) : Prop := (decide (i < (↑S.length : Int)) = true → (0 : Int) ≤ i ∧ i < (↑S.length : Int) ∧ (0 : Int) ≤ i ∧ i < (↑P.length : Int) ∧ (decide (P.getD i.toNat (Ty.int IntKind.i64).dflt < (0 : Int)) = true → true = true ∧ true = true ∧ R (D.v (Value.bool true), [], [])) ∧ (decide (P.getD i.toNat (Ty.int IntKind.i64).dflt < (0 : Int)) = false → (0 : Int) ≤ i ∧ i < (↑P.length : Int) ∧ (decide (P.getD i.toNat (Ty.int IntKind.i64).dflt ≥ (↑W.length : Int)) = true → true = true ∧ R (D.v (Value.bool true), [], [])) ∧ (decide (P.getD i.toNat (Ty.int IntKind.i64).dflt ≥ (↑W.length : Int)) = false → (0 : Int) ≤ i ∧ i < (↑P.length : Int) ∧ (0 : Int) ≤ P.getD i.toNat (Ty.int IntKind.i64).dflt ∧ P.getD i.toNat (Ty.int IntKind.i64).dflt < (↑W.length : Int) ∧ (((↑(List.length (W.getD (Int.toNat (P.getD i.toNat (Ty.int IntKind.i64).dflt)) (Ty.int IntKind.i64).sl.dflt)) : Int) != (↑(List.length (S.getD i.toNat ((Ty.int IntKind.i64).prod (Ty.bool.prod (Ty.int IntKind.i64).sl)).dflt).snd.snd) : Int)) = true → R (D.v (Value.bool true), [], [])) ∧ (((↑(List.length (W.getD (Int.toNat (P.getD i.toNat (Ty.int IntKind.i64).dflt)) (Ty.int IntKind.i64).sl.dflt)) : Int) != (↑(List.length (S.getD i.toNat ((Ty.int IntKind.i64).prod (Ty.bool.prod (Ty.int IntKind.i64).sl)).dflt).snd.snd) : Int)) = false → SameK (KK n17 2) (KK n17 2) ∧ G 2 (stOf 196 [1, 2, 5, 7, 8, 10, 11, 61, 62, 63, 99, 100, 101] [D.sl false false (Ty.int IntKind.i64) P, D.ptr 0 0 0, D.ptr 1 0 0, D.sl false false ((Ty.int IntKind.i64).prod (Ty.bool.prod (Ty.int IntKind.i64).sl)) S, D.own 2 0 n (some n), D.v (Value.int IntKind.i64 i), D.ptr 3 0 0, D.sl false false ((Ty.int IntKind.i64).prod (Ty.bool.prod (Ty.int IntKind.i64).sl)) S, D.v (Value.int IntKind.i64 (↑S.length : Int)), D.v (Value.int IntKind.i64 i), D.sl false false (Ty.int IntKind.i64) (S.getD i.toNat ((Ty.int IntKind.i64).prod (Ty.bool.prod (Ty.int IntKind.i64).sl)).dflt).snd.snd, D.v (Value.int IntKind.i64 (↑(List.length (S.getD i.toNat ((Ty.int IntKind.i64).prod (Ty.bool.prod (Ty.int IntKind.i64).sl)).dflt).snd.snd) : Int)), D.v (Value.int IntKind.i64 (0 : Int))] [Slot.live (Row.box 68 [D.v (Value.int IntKind.i64 g.h), D.v (Value.int IntKind.i64 g.w), D.sl false false Ty.bool g.B, D.sl false false Ty.bool g.R, D.sl false false Ty.bool g.L, D.sl false false (Ty.int IntKind.i64).sl W, D.sl false false (Ty.int IntKind.u64) (Mi M)]), Slot.live (Row.box 71 [D.sl false false (Ty.int IntKind.u64) (Mi m), D.sl false false (Ty.int IntKind.i64).sl ws, D.v (Value.bool o)]), Slot.live (Row.data 3 (Ty.int IntKind.i64) ls), Slot.live (Row.box 86 [D.v (Value.int IntKind.i64 (S.getD i.toNat ((Ty.int IntKind.i64).prod (Ty.bool.prod (Ty.int IntKind.i64).sl)).dflt).fst), D.v (Value.bool (S.getD i.toNat ((Ty.int IntKind.i64).prod (Ty.bool.prod (Ty.int IntKind.i64).sl)).dflt).snd.fst), D.sl false false (Ty.int IntKind.i64) (S.getD i.toNat ((Ty.int IntKind.i64).prod (Ty.bool.prod (Ty.int IntKind.i64).sl)).dflt).snd.snd])]))))) ∧ (decide (i < (↑S.length : Int)) = false → SameK (KK n17 3) (KK n17 3) ∧ G 3 (stOf 196 [1, 2, 5, 7, 8, 146, 147, 148] [D.sl false false (Ty.int IntKind.i64) P, D.ptr 0 0 0, D.ptr 1 0 0, D.sl false false ((Ty.int IntKind.i64).prod (Ty.bool.prod (Ty.int IntKind.i64).sl)) S, D.own 2 0 n (some n), D.sl false false ((Ty.int IntKind.i64).prod (Ty.bool.prod (Ty.int IntKind.i64).sl)) S, D.v (Value.int IntKind.i64 (↑S.length : Int)), D.v (Value.int IntKind.i64 (0 : Int))] [Slot.live (Row.box 68 [D.v (Value.int IntKind.i64 g.h), D.v (Value.int IntKind.i64 g.w), D.sl false false Ty.bool g.B, D.sl false false Ty.bool g.R, D.sl false false Ty.bool g.L, D.sl false false (Ty.int IntKind.i64).sl W, D.sl false false (Ty.int IntKind.u64) (Mi M)]), Slot.live (Row.box 71 [D.sl false false (Ty.int IntKind.u64) (Mi m), D.sl false false (Ty.int IntKind.i64).sl ws, D.v (Value.bool o)]), Slot.live (Row.data 3 (Ty.int IntKind.i64) ls)]))
theorem e17b (g : Gr) (W : List (List Int)) (M : List Nat) (m : List Nat) (ws : List (List Int)) (o : Bool) (S : List Slt) (P : List Int) (n : Nat) (hM : Smalls M) (hMn : M.length = n) (hn : n ≤ 17592186044416) (hS : slotsF g = S) (hSl : S.length ≤ 900) (hP : S.length ≤ P.length) (hcell : ∀ s ∈ S, s.2.2.length ≤ 300 ∧ ∀ c ∈ s.2.2, 0 ≤ c ∧ c < n)
    (hx : ∀ ls, Picked ⟨g, W, M⟩ P S.length ls → GetsK Try.prog Try.f17.results.toList [none] (KK n17) 0 (.v (.bool true), [], []) 3 (stOf 196 [1,2,5,7,8,146,147,148] [slI P, .ptr 0 0 0, .ptr 1 0 0, slS S, .own 2 0 n (some n), slS S, .v (.int .i64 S.length), .v (.int .i64 0)] [.live (.box 68 [.v (.int .i64 g.h), .v (.int .i64 g.w), .sl false false .bool g.B, .sl false false .bool g.R, .sl false false .bool g.L, slW W, slU M]), .live (.box 71 [slU m, slW ws, .v (.bool o)]), .live (.data 3 (.int .i64) ls)])) (z : Nat) : ∀ (i : Int) (ls : List Int), 0 ≤ i → i + z = S.length → Picked ⟨g, W, M⟩ P i.toNat ls → GetsK Try.prog Try.f17.results.toList [none] (KK n17) 0 (.v (.bool true), [], []) 1 (stOf 196 [1,2,5,7,8,61,62,63] [slI P, .ptr 0 0 0, .ptr 1 0 0, slS S, .own 2 0 n (some n), slS S, .v (.int .i64 S.length), .v (.int .i64 i)] [.live (.box 68 [.v (.int .i64 g.h), .v (.int .i64 g.w), .sl false false .bool g.B, .sl false false .bool g.R, .sl false false .bool g.L, slW W, slU M]), .live (.box 71 [slU m, slW ws, .v (.bool o)]), .live (.data 3 (.int .i64) ls)]) := by
  induction z with
  | zero =>
    intro i ls i0 hi hq
    have hiS : i.toNat = S.length := by omega
    rw [hiS] at hq
    have h1 := hx ls hq
    refine gets_vc spNc (fun k => [[1,2,5,7,8,52,53,54],[1,2,5,7,8,61,62,63],[1,2,5,7,8,10,11,61,62,63,99,100,101],[1,2,5,7,8,146,147,148],[1,2,5,7,8,15,16,146,147,148,155,156,157],[2,5,174,175,176]].getD k []) (fun _ => []) 400 (.fork (.fork (.t (.t .stop)) (.fork (.t .stop) (.fork .stop (.hd 2)))) (.hd 3)) (V := vq28 g W M m ws o S P n i ls) hmG (fun G R => by kernel_rfl) ?_
    unfold vq28
    simp (disch := omega) only [wrG, sameK_iff, true_and, and_true, decide_eq_true_eq, decide_eq_false_iff_not, ne_eq, not_false_eq_true, Bool.false_eq_true, Bool.true_eq_false, false_implies, true_implies, Ty.dflt, reduceCtorEq, beq_iff_eq, bne_iff_ne, beq_eq_false_iff_ne, bne_eq_false_iff_eq, Bool.not_eq_true, Bool.not_eq_eq_eq_not, Bool.not_true, Bool.not_false, gt_iff_lt, ge_iff_le, Int.not_lt, Int.not_le]
    repeat' (first | with_reducible refine And.intro ?_ ?_ | intro _)
    all_goals first | rfl | omega | assumption | trivial | (exfalso; simp_all; done) | (exfalso; omega) | skip
  | succ z ih =>
    intro i ls i0 hi hq
    have hit : (i + 1).toNat = i.toNat + 1 := by omega
    have hsin := hcell (S.getD i.toNat (0, false, [])) (getD_in (by omega))
    obtain ⟨s, hs⟩ : ∃ s, S.getD i.toNat (0, false, []) = s := ⟨_, rfl⟩
    rw [hs] at hsin
    obtain ⟨pw, hpw⟩ : ∃ pw, P.getD i.toNat 0 = pw := ⟨_, rfl⟩
    obtain ⟨w, hww⟩ : ∃ w, W.getD pw.toNat [] = w := ⟨_, rfl⟩
    refine gets_vc spNc (fun k => [[1,2,5,7,8,52,53,54],[1,2,5,7,8,61,62,63],[1,2,5,7,8,10,11,61,62,63,99,100,101],[1,2,5,7,8,146,147,148],[1,2,5,7,8,15,16,146,147,148,155,156,157],[2,5,174,175,176]].getD k []) (fun _ => []) 400 (.fork (.fork (.t (.t .stop)) (.fork (.t .stop) (.fork .stop (.hd 2)))) (.hd 3)) (V := vq28 g W M m ws o S P n i ls) hmG (fun G R => by kernel_rfl) ?_
    unfold vq28
    simp only [Ty.dflt, hs, hpw, hww]
    by_cases h : 0 ≤ pw ∧ pw < W.length ∧ w.length = s.2.2.length
    · have h1 := e17c g W M m ws o S P n i s.1 s.2.1 s.2.2 hM hMn hn hS i0 (by omega) hP (by unfold sAtN; rw [hs]) hsin.1 hsin.2 (wrG (by omega) (by omega)) (by rw [hpw, hww]; exact h) (fun ls' q' => ih (i + 1) ls' (by omega) (by omega) (by rw [hit]; exact q')) s.2.2.length 0 ls (by omega) (by omega) hq.start
      have hwl : ((w.length : Int) != (s.2.2.length : Int)) = false := by rw [h.2.2]; simp
      simp only [hwl]
      simp (disch := omega) only [wrG, sameK_iff, true_and, and_true, decide_eq_true_eq, decide_eq_false_iff_not, ne_eq, not_false_eq_true, Bool.false_eq_true, Bool.true_eq_false, false_implies, true_implies, Ty.dflt, reduceCtorEq, beq_iff_eq, bne_iff_ne, beq_eq_false_iff_ne, bne_eq_false_iff_eq, Bool.not_eq_true, Bool.not_eq_eq_eq_not, Bool.not_true, Bool.not_false, gt_iff_lt, ge_iff_le, Int.not_lt, Int.not_le]
      repeat' (first | with_reducible refine And.intro ?_ ?_ | intro _)
      all_goals first | rfl | omega | assumption | trivial | (exfalso; simp_all; done) | (exfalso; omega) | skip
    · by_cases h1 : 0 ≤ pw ∧ pw < W.length
      · have hwl : ((w.length : Int) != (s.2.2.length : Int)) = true := by rw [bne_iff_ne]; omega
        simp only [hwl]
        simp (disch := omega) only [wrG, sameK_iff, true_and, and_true, decide_eq_true_eq, decide_eq_false_iff_not, ne_eq, not_false_eq_true, Bool.false_eq_true, Bool.true_eq_false, false_implies, true_implies, Ty.dflt, reduceCtorEq, beq_iff_eq, bne_iff_ne, beq_eq_false_iff_ne, bne_eq_false_iff_eq, Bool.not_eq_true, Bool.not_eq_eq_eq_not, Bool.not_true, Bool.not_false, gt_iff_lt, ge_iff_le, Int.not_lt, Int.not_le]
        repeat' (first | with_reducible refine And.intro ?_ ?_ | intro _)
        all_goals first | rfl | omega | assumption | trivial | (exfalso; simp_all; done) | (exfalso; omega) | skip
      · by_cases h2 : pw < 0
        · have hd : decide (pw < 0) = true := decide_eq_true h2
          simp only [hd]
          simp (disch := omega) only [wrG, sameK_iff, true_and, and_true, decide_eq_true_eq, decide_eq_false_iff_not, ne_eq, not_false_eq_true, Bool.false_eq_true, Bool.true_eq_false, false_implies, true_implies, Ty.dflt, reduceCtorEq, beq_iff_eq, bne_iff_ne, beq_eq_false_iff_ne, bne_eq_false_iff_eq, Bool.not_eq_true, Bool.not_eq_eq_eq_not, Bool.not_true, Bool.not_false, gt_iff_lt, ge_iff_le, Int.not_lt, Int.not_le]
          repeat' (first | with_reducible refine And.intro ?_ ?_ | intro _)
          all_goals first | rfl | omega | assumption | trivial | (exfalso; simp_all; done) | (exfalso; omega) | skip
        · have hd : decide (pw ≥ (W.length : Int)) = true := decide_eq_true (by omega)
          simp only [hd]
          simp (disch := omega) only [wrG, sameK_iff, true_and, and_true, decide_eq_true_eq, decide_eq_false_iff_not, ne_eq, not_false_eq_true, Bool.false_eq_true, Bool.true_eq_false, false_implies, true_implies, Ty.dflt, reduceCtorEq, beq_iff_eq, bne_iff_ne, beq_eq_false_iff_ne, bne_eq_false_iff_eq, Bool.not_eq_true, Bool.not_eq_eq_eq_not, Bool.not_true, Bool.not_false, gt_iff_lt, ge_iff_le, Int.not_lt, Int.not_le]
          repeat' (first | with_reducible refine And.intro ?_ ?_ | intro _)
          all_goals first | rfl | omega | assumption | trivial | (exfalso; simp_all; done) | (exfalso; omega) | skip
def vq29 (g : Gr) (W : List (List Int)) (M : List Nat) (m : List Nat) (ws : List (List Int)) (o : Bool) (S : List Slt) (P : List Int) (n : Nat) (i : Int) (ls : List Int) (G : Nat → St → Prop) (R : D × List (Option Row) × List Row → Prop) : Prop := (decide (i < (↑n : Int)) = true → (0 : Int) ≤ i ∧ i < (↑n : Int) ∧ 0 + i.toNat < ls.length ∧ SameK (KK n17 0) (KK n17 0) ∧ G 0 (stOf 196 [1, 2, 5, 7, 8, 52, 53, 54] [D.sl false false (Ty.int IntKind.i64) P, D.ptr 0 0 0, D.ptr 1 0 0, D.sl false false ((Ty.int IntKind.i64).prod (Ty.bool.prod (Ty.int IntKind.i64).sl)) S, D.own 2 0 n (some n), D.own 2 0 n (some n), D.v (Value.int IntKind.i64 (↑n : Int)), D.v (Value.int IntKind.i64 (IntKind.i64.wrap (i + (1 : Int))))] [Slot.live (Row.box 68 [D.v (Value.int IntKind.i64 g.h), D.v (Value.int IntKind.i64 g.w), D.sl false false Ty.bool g.B, D.sl false false Ty.bool g.R, D.sl false false Ty.bool g.L, D.sl false false (Ty.int IntKind.i64).sl W, D.sl false false (Ty.int IntKind.u64) (Mi M)]), Slot.live (Row.box 71 [D.sl false false (Ty.int IntKind.u64) (Mi m), D.sl false false (Ty.int IntKind.i64).sl ws, D.v (Value.bool o)]), Slot.live (Row.data 3 (Ty.int IntKind.i64) (ls.set (0 + i.toNat) (-1 : Int)))])) ∧ (decide (i < (↑n : Int)) = false → SameK (KK n17 1) (KK n17 1) ∧ G 1 (stOf 196 [1, 2, 5, 7, 8, 61, 62, 63] [D.sl false false (Ty.int IntKind.i64) P, D.ptr 0 0 0, D.ptr 1 0 0, D.sl false false ((Ty.int IntKind.i64).prod (Ty.bool.prod (Ty.int IntKind.i64).sl)) S, D.own 2 0 n (some n), D.sl false false ((Ty.int IntKind.i64).prod (Ty.bool.prod (Ty.int IntKind.i64).sl)) S, D.v (Value.int IntKind.i64 (↑S.length : Int)), D.v (Value.int IntKind.i64 (0 : Int))] [Slot.live (Row.box 68 [D.v (Value.int IntKind.i64 g.h), D.v (Value.int IntKind.i64 g.w), D.sl false false Ty.bool g.B, D.sl false false Ty.bool g.R, D.sl false false Ty.bool g.L, D.sl false false (Ty.int IntKind.i64).sl W, D.sl false false (Ty.int IntKind.u64) (Mi M)]), Slot.live (Row.box 71 [D.sl false false (Ty.int IntKind.u64) (Mi m), D.sl false false (Ty.int IntKind.i64).sl ws, D.v (Value.bool o)]), Slot.live (Row.data 3 (Ty.int IntKind.i64) ls)]))
theorem e17a (g : Gr) (W : List (List Int)) (M : List Nat) (m : List Nat) (ws : List (List Int)) (o : Bool) (S : List Slt) (P : List Int) (n : Nat) (hn : n ≤ 17592186044416) (hx : ∀ ls, ls.length = n → (∀ c : Nat, c < ls.length → ls.getD c 0 = -1) → GetsK Try.prog Try.f17.results.toList [none] (KK n17) 0 (.v (.bool true), [], []) 1 (stOf 196 [1,2,5,7,8,61,62,63] [slI P, .ptr 0 0 0, .ptr 1 0 0, slS S, .own 2 0 n (some n), slS S, .v (.int .i64 S.length), .v (.int .i64 0)] [.live (.box 68 [.v (.int .i64 g.h), .v (.int .i64 g.w), .sl false false .bool g.B, .sl false false .bool g.R, .sl false false .bool g.L, slW W, slU M]), .live (.box 71 [slU m, slW ws, .v (.bool o)]), .live (.data 3 (.int .i64) ls)])) (z : Nat) : ∀ (i : Int) (ls : List Int), 0 ≤ i → i + z = n → ls.length = n → (∀ c : Nat, c < i.toNat → ls.getD c 0 = -1) → GetsK Try.prog Try.f17.results.toList [none] (KK n17) 0 (.v (.bool true), [], []) 0 (stOf 196 [1,2,5,7,8,52,53,54] [slI P, .ptr 0 0 0, .ptr 1 0 0, slS S, .own 2 0 n (some n), .own 2 0 n (some n), .v (.int .i64 n), .v (.int .i64 i)] [.live (.box 68 [.v (.int .i64 g.h), .v (.int .i64 g.w), .sl false false .bool g.B, .sl false false .bool g.R, .sl false false .bool g.L, slW W, slU M]), .live (.box 71 [slU m, slW ws, .v (.bool o)]), .live (.data 3 (.int .i64) ls)]) := by
  induction z with
  | zero =>
    intro i ls i0 hi hl hq
    have h1 := hx ls hl (fun c hc => hq c (by omega))
    refine gets_vc spNc (fun k => [[1,2,5,7,8,52,53,54],[1,2,5,7,8,61,62,63],[1,2,5,7,8,10,11,61,62,63,99,100,101],[1,2,5,7,8,146,147,148],[1,2,5,7,8,15,16,146,147,148,155,156,157],[2,5,174,175,176]].getD k []) (fun _ => []) 400 (.fork (.hd 0) (.hd 1)) (V := vq29 g W M m ws o S P n i ls) hmG (fun G R => by kernel_rfl) ?_
    unfold vq29
    simp (disch := omega) only [wrG, sameK_iff, true_and, and_true, decide_eq_true_eq, decide_eq_false_iff_not, ne_eq, not_false_eq_true, Bool.false_eq_true, Bool.true_eq_false, false_implies, true_implies, Ty.dflt, reduceCtorEq, beq_iff_eq, bne_iff_ne, beq_eq_false_iff_ne, bne_eq_false_iff_eq, Bool.not_eq_true, Bool.not_eq_eq_eq_not, Bool.not_true, Bool.not_false, gt_iff_lt, ge_iff_le, Int.not_lt, Int.not_le]
    repeat' (first | with_reducible refine And.intro ?_ ?_ | intro _)
    all_goals first | rfl | omega | assumption | trivial | (exfalso; simp_all; done) | (exfalso; omega) | skip
  | succ z ih =>
    intro i ls i0 hi hl hq
    have hk1 : IntKind.i64.wrap (i + 1) = i + 1 := wrG (by omega) (by omega)
    have h1 := ih (i + 1) (ls.set i.toNat (-1)) (by omega) (by omega) (by rw [List.length_set]; exact hl) (fun c hc => by
      rw [getD_set_int]
      by_cases e : i.toNat = c
      · rw [if_pos ⟨e, by omega⟩]
      · rw [if_neg (fun h => e h.1)]
        exact hq c (by omega))
    refine gets_vc spNc (fun k => [[1,2,5,7,8,52,53,54],[1,2,5,7,8,61,62,63],[1,2,5,7,8,10,11,61,62,63,99,100,101],[1,2,5,7,8,146,147,148],[1,2,5,7,8,15,16,146,147,148,155,156,157],[2,5,174,175,176]].getD k []) (fun _ => []) 400 (.fork (.hd 0) (.hd 1)) (V := vq29 g W M m ws o S P n i ls) hmG (fun G R => by kernel_rfl) ?_
    unfold vq29
    simp only [hk1, Nat.zero_add]
    simp (disch := omega) only [wrG, sameK_iff, true_and, and_true, decide_eq_true_eq, decide_eq_false_iff_not, ne_eq, not_false_eq_true, Bool.false_eq_true, Bool.true_eq_false, false_implies, true_implies, Ty.dflt, reduceCtorEq, beq_iff_eq, bne_iff_ne, beq_eq_false_iff_ne, bne_eq_false_iff_eq, Bool.not_eq_true, Bool.not_eq_eq_eq_not, Bool.not_true, Bool.not_false, gt_iff_lt, ge_iff_le, Int.not_lt, Int.not_le]
    repeat' (first | with_reducible refine And.intro ?_ ?_ | intro _)
    all_goals first | rfl | omega | assumption | trivial | (exfalso; simp_all; done) | (exfalso; omega) | skip
theorem d17 (g : Gr) (W : List (List Int)) (M : List Nat) (P : List Int) (F : (Pr.mk g W M).fits) : Con Try.prog 17 [] [.agg [.v (.int .i64 g.h), .v (.int .i64 g.w), .sl false false .bool g.B, .sl false false .bool g.R, .sl false false .bool g.L, slW W, slU M], slI P] (.v (.bool true)) [] [] := by
  refine con_vc (how := [none]) (c := n17) (K := (KK n17)) spNc (fun k => [[1,2,5,7,8,52,53,54],[1,2,5,7,8,61,62,63],[1,2,5,7,8,10,11,61,62,63,99,100,101],[1,2,5,7,8,146,147,148],[1,2,5,7,8,15,16,146,147,148,155,156,157],[2,5,174,175,176]].getD k []) (fun _ => []) 400 (.fork .stop (.fork (.t (.fork .stop .stop)) (.fork (.fork .stop .stop) (.hd 0)))) (V := fun G R => Con Try.prog 57 [] [] (D.v (Value.bool true)) [] [] ∧ ((!true) = true → R (D.v (Value.bool false), [], [])) ∧ ((!true) = false → Con Try.prog 59 [] [D.agg [D.v (Value.int IntKind.i64 (Pr.mk g W (Nt (Mi M))).g.h), D.v (Value.int IntKind.i64 (Pr.mk g W (Nt (Mi M))).g.w), D.sl false false Ty.bool (Pr.mk g W (Nt (Mi M))).g.B, D.sl false false Ty.bool (Pr.mk g W (Nt (Mi M))).g.R, D.sl false false Ty.bool (Pr.mk g W (Nt (Mi M))).g.L, D.sl false false (Ty.int IntKind.i64).sl (Pr.mk g W (Nt (Mi M))).W, D.sl false false (Ty.int IntKind.u64) (Mi (Pr.mk g W (Nt (Mi M))).M)]] (D.tup [D.agg [D.sl false false (Ty.int IntKind.u64) (Mi (narM (Pr.mk g W (Nt (Mi M))))), D.sl false false (Ty.int IntKind.i64).sl (narW (Pr.mk g W (Nt (Mi M)))), D.v (Value.bool (narO (Pr.mk g W (Nt (Mi M)))))], D.v (Value.int IntKind.i64 (checkP (Pr.mk g W (Nt (Mi M)))))]) [] [] ∧ Value.int IntKind.i64 g.h = Value.int IntKind.i64 (Pr.mk g W (Nt (Mi M))).g.h ∧ Value.int IntKind.i64 g.w = Value.int IntKind.i64 (Pr.mk g W (Nt (Mi M))).g.w ∧ g.B = (Pr.mk g W (Nt (Mi M))).g.B ∧ g.R = (Pr.mk g W (Nt (Mi M))).g.R ∧ g.L = (Pr.mk g W (Nt (Mi M))).g.L ∧ W = (Pr.mk g W (Nt (Mi M))).W ∧ Mi M = Mi (Pr.mk g W (Nt (Mi M))).M ∧ Con Try.prog 65 [] [D.agg [D.v (Value.int IntKind.i64 g.h), D.v (Value.int IntKind.i64 g.w), D.sl false false Ty.bool g.B, D.sl false false Ty.bool g.R, D.sl false false Ty.bool g.L]] (D.sl false false ((Ty.int IntKind.i64).prod (Ty.bool.prod (Ty.int IntKind.i64).sl)) (slotsF g)) [] [] ∧ Value.int IntKind.i64 g.h = Value.int IntKind.i64 g.h ∧ Value.int IntKind.i64 g.w = Value.int IntKind.i64 g.w ∧ g.B = g.B ∧ g.R = g.R ∧ g.L = g.L ∧ ((checkP (Pr.mk g W (Nt (Mi M))) != (0 : Int)) = true → true = true ∧ ((checkP (Pr.mk g W (Nt (Mi M))) == (0 : Int)) = true → R (D.v (Value.bool true), [], [])) ∧ ((checkP (Pr.mk g W (Nt (Mi M))) == (0 : Int)) = false → R (D.v (Value.bool ((↑(Mi (narM (Pr.mk g W (Nt (Mi M))))).length : Int) == (0 : Int))), [], []))) ∧ ((checkP (Pr.mk g W (Nt (Mi M))) != (0 : Int)) = false → (decide ((↑P.length : Int) < (↑(slotsF g).length : Int)) = true → ((checkP (Pr.mk g W (Nt (Mi M))) == (0 : Int)) = true → R (D.v (Value.bool true), [], [])) ∧ ((checkP (Pr.mk g W (Nt (Mi M))) == (0 : Int)) = false → R (D.v (Value.bool ((↑(Mi (narM (Pr.mk g W (Nt (Mi M))))).length : Int) == (0 : Int))), [], []))) ∧ (decide ((↑P.length : Int) < (↑(slotsF g).length : Int)) = false → (0 : Int) ≤ (↑(Mi M).length : Int) ∧ (↑(Mi M).length : Int) ≤ (↑(Mi M).length : Int) ∧ (↑(Mi M).length : Int) ≤ (9223372036854775807 : Int) ∧ (↑(Mi M).length : Int).toNat * 8 ≤ 281474976710656 ∧ SameK (KK n17 0) (KK n17 0) ∧ G 0 (stOf 196 [1, 2, 5, 7, 8, 52, 53, 54] [D.sl false false (Ty.int IntKind.i64) P, D.ptr 0 0 0, D.ptr 1 0 0, D.sl false false ((Ty.int IntKind.i64).prod (Ty.bool.prod (Ty.int IntKind.i64).sl)) (slotsF g), D.own 2 0 (↑(Mi M).length : Int).toNat (some (↑(Mi M).length : Int).toNat), D.own 2 0 (↑(Mi M).length : Int).toNat (some (↑(Mi M).length : Int).toNat), D.v (Value.int IntKind.i64 (↑(↑(Mi M).length : Int).toNat : Int)), D.v (Value.int IntKind.i64 (0 : Int))] [Slot.live (Row.box 68 [D.v (Value.int IntKind.i64 g.h), D.v (Value.int IntKind.i64 g.w), D.sl false false Ty.bool g.B, D.sl false false Ty.bool g.R, D.sl false false Ty.bool g.L, D.sl false false (Ty.int IntKind.i64).sl W, D.sl false false (Ty.int IntKind.u64) (Mi M)]), Slot.live (Row.box 71 [D.sl false false (Ty.int IntKind.u64) (Mi (narM (Pr.mk g W (Nt (Mi M))))), D.sl false false (Ty.int IntKind.i64).sl (narW (Pr.mk g W (Nt (Mi M)))), D.v (Value.bool (narO (Pr.mk g W (Nt (Mi M)))))]), Slot.live (Row.data 3 (Ty.int IntKind.i64) (List.replicate (↑(Mi M).length : Int).toNat (0 : Int)))]))))) hmG Try.func17 (by kernel_rfl) (by kernel_rfl) (fun G R => by kernel_rfl) ?_
  try dsimp only
  have c57 := d57
  have c59 := d59s g W M F.small
  have hM1 := F.M
  simp only at hM1
  have c65 := d65s g
  simp only [Nt_Mi]
  by_cases h : checkP ⟨g, W, M⟩ = 0
  · have hlen := narM_len _ h
    have hns := nar_small h F.small
    have hwl := narW_len h
    have hS := slots_900 (checkP_zero h).1
    simp only at hwl hS hlen
    have FF := fine_of h F.small
    by_cases hP : (slotsF g).length ≤ P.length
    · have hend : ∀ ls, Picked ⟨g, W, M⟩ P (slotsF g).length ls → GetsK Try.prog Try.f17.results.toList [none] (KK n17) 0 (.v (.bool true), [], []) 3 (stOf 196 [1,2,5,7,8,146,147,148] [slI P, .ptr 0 0 0, .ptr 1 0 0, slS (slotsF g), .own 2 0 M.length (some M.length), slS (slotsF g), .v (.int .i64 (slotsF g).length), .v (.int .i64 0)] [.live (.box 68 [.v (.int .i64 g.h), .v (.int .i64 g.w), .sl false false .bool g.B, .sl false false .bool g.R, .sl false false .bool g.L, slW W, slU M]), .live (.box 71 [slU (narM ⟨g, W, M⟩), slW (narW ⟨g, W, M⟩), .v (.bool (narO ⟨g, W, M⟩))]), .live (.data 3 (.int .i64) ls)]) := fun ls q => by
        have hok := q.ok h rfl
        have hll := q.len
        simp only at hll
        exact e17d g W M _ _ _ (slotsF g) P ls M.length (by omega) hP hwl (fun j hj => ⟨(slot18 h F.small hj).few, q.found h rfl hj⟩) (e17f g W M _ _ _ (slotsF g) P ls M.length hll hM1 hlen hns hok (fun c hc => q.left h rfl hc) M.length 0 (by omega) (by omega)) (slotsF g).length 0 (by omega) (by omega)
      have hxx := e17a g W M (narM ⟨g, W, M⟩) (narW ⟨g, W, M⟩) (narO ⟨g, W, M⟩) (slotsF g) P M.length hM1 (fun ls hl hc => e17b g W M _ _ _ (slotsF g) P M.length F.small rfl hM1 rfl hS hP (fun s hs => ⟨(FF.cells s hs).1, fun c hc => (FF.cells s hs).2 c hc⟩) hend (slotsF g).length 0 ls (by omega) (by omega) (pick_new hl hc)) M.length 0 (List.replicate M.length 0) (by omega) (by omega) (by simp) (fun c hc => by exfalso; simp at hc)
      have e0 : ((0 : Int) != 0) = false := rfl
      simp only [h] at c59
      simp only [h, e0, take_len, List.drop_zero, List.take_length, Mi_getD, Mi_len, Nt_Mi, Int.toNat_natCast, Mi_set, Nat.zero_add, Nat.sub_zero, List.length_set, take_one, takeSn, List.take_zero, List.nil_append, List.length_append, List.length_cons, List.length_nil]
      simp only [Nt_Mi, Mi_len, Bool.not_true]
      simp (disch := omega) only [wrG, sameK_iff, true_and, and_true, decide_eq_true_eq, decide_eq_false_iff_not, ne_eq, not_false_eq_true, Bool.false_eq_true, Bool.true_eq_false, false_implies, true_implies, Ty.dflt, reduceCtorEq, beq_iff_eq, bne_iff_ne, beq_eq_false_iff_ne, bne_eq_false_iff_eq, Bool.not_eq_true, Bool.not_eq_eq_eq_not, Bool.not_true, Bool.not_false, gt_iff_lt, ge_iff_le, Int.not_lt, Int.not_le]
      repeat' (first | with_reducible refine And.intro ?_ ?_ | intro _)
      all_goals first | rfl | omega | assumption | trivial | (exfalso; simp_all; done) | (exfalso; omega) | skip
    · have e0 : ((0 : Int) != 0) = false := rfl
      have e1 : ((0 : Int) == 0) = true := rfl
      have e2 : decide ((P.length : Int) < ((slotsF g).length : Int)) = true := decide_eq_true (by omega)
      simp only [h] at c59
      simp only [h, e0, e1, e2, take_len, List.drop_zero, List.take_length, Mi_getD, Mi_len, Nt_Mi, Int.toNat_natCast, Mi_set, Nat.zero_add, Nat.sub_zero, List.length_set, take_one, takeSn, List.take_zero, List.nil_append, List.length_append, List.length_cons, List.length_nil]
      simp only [Nt_Mi, Mi_len, Bool.not_true]
      simp (disch := omega) only [wrG, sameK_iff, true_and, and_true, decide_eq_true_eq, decide_eq_false_iff_not, ne_eq, not_false_eq_true, Bool.false_eq_true, Bool.true_eq_false, false_implies, true_implies, Ty.dflt, reduceCtorEq, beq_iff_eq, bne_iff_ne, beq_eq_false_iff_ne, bne_eq_false_iff_eq, Bool.not_eq_true, Bool.not_eq_eq_eq_not, Bool.not_true, Bool.not_false, gt_iff_lt, ge_iff_le, Int.not_lt, Int.not_le]
      repeat' (first | with_reducible refine And.intro ?_ ?_ | intro _)
      all_goals first | rfl | omega | assumption | trivial | (exfalso; simp_all; done) | (exfalso; omega) | skip
  · have e1 := narM_no h
    have e2 := narW_no h
    have e3 := narO_no h
    have e0 : (checkP ⟨g, W, M⟩ != 0) = true := by rw [bne_iff_ne]; exact h
    have e4 : (checkP ⟨g, W, M⟩ == 0) = false := by rw [beq_eq_false_iff_ne]; exact h
    simp only [e1, e2, e3] at c59
    have e5 : (((Mi []).length : Int) == 0) = true := rfl
    simp only [e1, e2, e3, e0, e4, e5, Bool.not_true]
    simp (disch := omega) only [wrG, sameK_iff, true_and, and_true, decide_eq_true_eq, decide_eq_false_iff_not, ne_eq, not_false_eq_true, Bool.false_eq_true, Bool.true_eq_false, false_implies, true_implies, Ty.dflt, reduceCtorEq, beq_iff_eq, bne_iff_ne, beq_eq_false_iff_ne, bne_eq_false_iff_eq, Bool.not_eq_true, Bool.not_eq_eq_eq_not, Bool.not_true, Bool.not_false, gt_iff_lt, ge_iff_le, Int.not_lt, Int.not_le]
    repeat' (first | with_reducible refine And.intro ?_ ?_ | intro _)
    all_goals first | rfl | omega | assumption | trivial | (exfalso; simp_all; done) | (exfalso; omega) | skip
end Go.Proofs.YtnakmganodkliaaAm
namespace Go.Proofs.YtnakmganodkliaaAm
open Go
structure Under (M Q : List Nat) : Prop where
  len : Q.length = M.length
  leq : Leq Q M
  small : Smalls Q
theorem Under.step {M Q Z : List Nat} (u : Under M Q) (hZ : Smalls Z) (i : Nat) : Under M (Q.set i (Q.getD i 0 &&& Z.getD i 0)) := by
  have hle : Leq (Q.set i (Q.getD i 0 &&& Z.getD i 0)) Q := by
    intro c j h
    unfold bitAt at h ⊢
    rw [getD_set_nat] at h
    split at h
    · rename_i e
      rw [Nat.testBit_and, Bool.and_eq_true] at h
      rw [← e.1]
      exact h.1
    · exact h
  exact ⟨by rw [List.length_set]; exact u.len, hle.trans u.leq, leq_small hle u.small⟩
theorem under_self {M : List Nat} (hM : Smalls M) : Under M M := ⟨rfl, Leq.refl M, hM⟩
theorem sub_skip {L : List Int} {k : Int} {y : Int} {rest : List Int} (k0 : 0 ≤ k) (k1 : k < L.length) (h : (y :: rest).Sublist (L.drop k.toNat)) (hlt : L.getD k.toNat 0 < y) : (y :: rest).Sublist (L.drop (k + 1).toNat) := by
  rw [drop_at (xs := L) (i := k) (0 : Int) k0 (by omega), List.sublist_cons_iff] at h
  rcases h with h | ⟨r, e, _⟩
  · exact h
  · rw [List.cons.injEq] at e
    omega
theorem sub_found {L : List Int} (hs : L.Pairwise (· < ·)) {k : Int} {y : Int} {rest : List Int} (k0 : 0 ≤ k) (k1 : k < L.length) (h : (y :: rest).Sublist (L.drop k.toNat)) (hlt : ¬ L.getD k.toNat 0 < y) : L.getD k.toNat 0 = y := by
  have hd : (L.drop k.toNat).Pairwise (· < ·) := hs.sublist (List.drop_sublist _ _)
  rw [drop_at (xs := L) (i := k) (0 : Int) k0 (by omega)] at h hd
  rw [List.pairwise_cons] at hd
  rw [List.sublist_cons_iff] at h
  rcases h with h | ⟨r, e, _⟩
  · exact absurd (hd.1 y (h.subset List.mem_cons_self)) hlt
  · rw [List.cons.injEq] at e
    exact e.1.symm
theorem rev_of {W V : List (List Int)} (hl : V.length = W.length) (h : ∀ j : Nat, j < W.length → V.getD j [] = W.getD (W.length - 1 - j) []) : V = W.reverse := by
  apply List.ext_getElem (by simpa using hl)
  intro j h1 h2
  have := h j (by omega)
  rw [List.getD_eq_getElem?_getD, List.getD_eq_getElem?_getD, List.getElem?_eq_getElem h1, List.getElem?_eq_getElem (by omega)] at this
  simp only [Option.getD_some] at this
  rw [this, List.getElem_reverse]
theorem getD_set_words (l : List (List Int)) (c : Nat) (v : List Int) (d : Nat) : (l.set c v).getD d [] = if c = d ∧ c < l.length then v else l.getD d [] := getD_set_gen [] l c v d
end Go.Proofs.YtnakmganodkliaaAm
