/- Sets of numbers: a small set is told right; told and made again. -/
import Derived.Test.YtnakmganodkliaaDoorMaC
import Derived.Test.YtnakmganodkliaaDoorLf
set_option linter.unusedVariables false
set_option linter.unusedSimpArgs false
set_option maxRecDepth 100000
namespace Go.Proofs.YtnakmganodkliaaDoorAm
open Go

theorem getI_eq {xs : List Int} {i : Nat} {d : Int} (h : i < xs.length) : xs.getD i d = xs[i] := by
  rw [List.getD_eq_getElem?_getD, List.getElem?_eq_getElem h]
  rfl

theorem getI_mem {xs : List Int} {i : Nat} {d : Int} (h : i < xs.length) : xs.getD i d ∈ xs := by
  rw [getI_eq h]
  exact List.getElem_mem h

theorem d20   : Con Tryd.prog 20 [] [] ((.v (.bool true))) [] [] := by
  refine con_vc (how := [none]) (c := m20) (K := (KK m20)) spM (fun _ => []) (fun _ => []) 400 (.fork (.fork (.fork .stop .stop) (.f .stop)) (.f (.f .stop))) (V := fun G R => Con Tryd.prog 25 [] [D.v (Value.int IntKind.u64 (9 : Int))] (D.own 0 0 2 none) [] [Row.data 3 (Ty.int IntKind.i64) (listN 9)] ∧ Value.int IntKind.u64 (9 : Int) = Value.int IntKind.u64 (9 : Int) ∧ Con Tryd.prog 24 [] [D.sl false false (Ty.int IntKind.i64) (List.take 5 (List.drop 0 [(3 : Int), (0 : Int), (64 : Int), (-1 : Int), (3 : Int)]))] (D.v (Value.int IntKind.u64 (↑9 : Int))) [] [] ∧ List.take 5 (List.drop 0 [(3 : Int), (0 : Int), (64 : Int), (-1 : Int), (3 : Int)]) = List.take 5 (List.drop 0 [(3 : Int), (0 : Int), (64 : Int), (-1 : Int), (3 : Int)]) ∧ (((↑9 : Int) == (9 : Int)) = true → (((↑2 : Int) == (2 : Int)) = true → (0 : Int) ≤ (1 : Int) ∧ (1 : Int) < (↑2 : Int) ∧ 1 < 2 ∧ (((listN 9).getD 1 (Ty.int IntKind.i64).dflt == (3 : Int)) = true → Con Tryd.prog 31 [] [D.v (Value.int IntKind.i64 (3 : Int))] (D.v (Value.int IntKind.u64 (↑7 : Int))) [] [] ∧ Value.int IntKind.i64 (3 : Int) = Value.int IntKind.i64 (3 : Int) ∧ R (D.v (Value.bool ((↑7 : Int) == (7 : Int))), [], [])) ∧ (((listN 9).getD 1 (Ty.int IntKind.i64).dflt == (3 : Int)) = false → R (D.v (Value.bool false), [], []))) ∧ (((↑2 : Int) == (2 : Int)) = false → false = false ∧ R (D.v (Value.bool false), [], []))) ∧ (((↑9 : Int) == (9 : Int)) = false → false = false ∧ false = false ∧ R (D.v (Value.bool false), [], []))) hmG Tryd.func20 (by kernel_rfl) (by kernel_rfl) (fun G R => by kernel_rfl) ?_
  try dsimp only
  have h2 : ((listN 9).getD 1 (Ty.int IntKind.i64).dflt == 3) = true := by decide
  refine ⟨d25 9 (by decide), rfl, d24 [3, 0, 64, -1, 3] (by decide), rfl, fun _ => ⟨fun _ => ⟨by decide, by decide, by decide, fun _ => ⟨d31 3, rfl, rfl⟩, fun h => absurd (h2.symm.trans h) (by decide)⟩, fun h => absurd h (by decide)⟩, fun h => absurd h (by decide)⟩

theorem c4 (L : List Int) (s : Nat) (hL : (L.length : Int) ≤ 9223372036854775807) (hs : s = ofN L) (z : Nat) : ∀ (k : Int), 0 ≤ k → k + z = L.length → GetsK Tryd.prog Tryd.f4.results.toList [none] (KK m4) 0 (.v (.bool true), [], []) 2 (stOf 73 [0,5,56,57,58] [slI L, u64 s, slI L, .v (.int .i64 (L.length : Int)), .v (.int .i64 k)] []) := by
  induction z with
  | zero =>
    intro k h0 hk
    refine gets_vc spM (fun k => if k = 0 then [0,5,6,24,25,26] else if k = 1 then [0,5,6,8,9,24,25,26,30,31,32] else [0,5,56,57,58]) (fun _ => []) 400 (.fork (.fork (.fork .stop (.hd 2)) (.fork .stop (.hd 2))) .stop) (V := fun G R => (decide (k < (↑L.length : Int)) = true → (0 : Int) ≤ k ∧ k < (↑L.length : Int) ∧ Con Tryd.prog 26 [] [D.v (Value.int IntKind.u64 (↑s : Int)), D.v (Value.int IntKind.i64 (L.getD k.toNat (Ty.int IntKind.i64).dflt))] (D.v (Value.bool (hasN (↑s : Int).toNat (L.getD k.toNat (Ty.int IntKind.i64).dflt)))) [] [] ∧ Value.int IntKind.u64 (↑s : Int) = Value.int IntKind.u64 (↑s : Int) ∧ Value.int IntKind.i64 (L.getD k.toNat (Ty.int IntKind.i64).dflt) = Value.int IntKind.i64 (L.getD k.toNat (Ty.int IntKind.i64).dflt) ∧ (decide (L.getD k.toNat (Ty.int IntKind.i64).dflt ≥ (0 : Int)) = true → ((!hasN (↑s : Int).toNat (L.getD k.toNat (Ty.int IntKind.i64).dflt) == decide (L.getD k.toNat (Ty.int IntKind.i64).dflt ≤ (63 : Int))) = true → R (D.v (Value.bool false), [], [])) ∧ ((!hasN (↑s : Int).toNat (L.getD k.toNat (Ty.int IntKind.i64).dflt) == decide (L.getD k.toNat (Ty.int IntKind.i64).dflt ≤ (63 : Int))) = false → SameK (KK m4 2) (KK m4 2) ∧ G 2 (stOf 73 [0, 5, 56, 57, 58] [D.sl false false (Ty.int IntKind.i64) L, D.v (Value.int IntKind.u64 (↑s : Int)), D.sl false false (Ty.int IntKind.i64) L, D.v (Value.int IntKind.i64 (↑L.length : Int)), D.v (Value.int IntKind.i64 (IntKind.i64.wrap (k + (1 : Int))))] []))) ∧ (decide (L.getD k.toNat (Ty.int IntKind.i64).dflt ≥ (0 : Int)) = false → ((!hasN (↑s : Int).toNat (L.getD k.toNat (Ty.int IntKind.i64).dflt) == false) = true → R (D.v (Value.bool false), [], [])) ∧ ((!hasN (↑s : Int).toNat (L.getD k.toNat (Ty.int IntKind.i64).dflt) == false) = false → SameK (KK m4 2) (KK m4 2) ∧ G 2 (stOf 73 [0, 5, 56, 57, 58] [D.sl false false (Ty.int IntKind.i64) L, D.v (Value.int IntKind.u64 (↑s : Int)), D.sl false false (Ty.int IntKind.i64) L, D.v (Value.int IntKind.i64 (↑L.length : Int)), D.v (Value.int IntKind.i64 (IntKind.i64.wrap (k + (1 : Int))))] [])))) ∧ (decide (k < (↑L.length : Int)) = false → R (D.v (Value.bool true), [], []))) hmG (fun G R => by kernel_rfl) ?_
    refine ⟨fun h => ?_, fun _ => rfl⟩
    rw [decide_eq_true_eq] at h
    omega
  | succ z ih =>
    intro k h0 hk
    refine gets_vc spM (fun k => if k = 0 then [0,5,6,24,25,26] else if k = 1 then [0,5,6,8,9,24,25,26,30,31,32] else [0,5,56,57,58]) (fun _ => []) 400 (.fork (.fork (.fork .stop (.hd 2)) (.fork .stop (.hd 2))) .stop) (V := fun G R => (decide (k < (↑L.length : Int)) = true → (0 : Int) ≤ k ∧ k < (↑L.length : Int) ∧ Con Tryd.prog 26 [] [D.v (Value.int IntKind.u64 (↑s : Int)), D.v (Value.int IntKind.i64 (L.getD k.toNat (Ty.int IntKind.i64).dflt))] (D.v (Value.bool (hasN (↑s : Int).toNat (L.getD k.toNat (Ty.int IntKind.i64).dflt)))) [] [] ∧ Value.int IntKind.u64 (↑s : Int) = Value.int IntKind.u64 (↑s : Int) ∧ Value.int IntKind.i64 (L.getD k.toNat (Ty.int IntKind.i64).dflt) = Value.int IntKind.i64 (L.getD k.toNat (Ty.int IntKind.i64).dflt) ∧ (decide (L.getD k.toNat (Ty.int IntKind.i64).dflt ≥ (0 : Int)) = true → ((!hasN (↑s : Int).toNat (L.getD k.toNat (Ty.int IntKind.i64).dflt) == decide (L.getD k.toNat (Ty.int IntKind.i64).dflt ≤ (63 : Int))) = true → R (D.v (Value.bool false), [], [])) ∧ ((!hasN (↑s : Int).toNat (L.getD k.toNat (Ty.int IntKind.i64).dflt) == decide (L.getD k.toNat (Ty.int IntKind.i64).dflt ≤ (63 : Int))) = false → SameK (KK m4 2) (KK m4 2) ∧ G 2 (stOf 73 [0, 5, 56, 57, 58] [D.sl false false (Ty.int IntKind.i64) L, D.v (Value.int IntKind.u64 (↑s : Int)), D.sl false false (Ty.int IntKind.i64) L, D.v (Value.int IntKind.i64 (↑L.length : Int)), D.v (Value.int IntKind.i64 (IntKind.i64.wrap (k + (1 : Int))))] []))) ∧ (decide (L.getD k.toNat (Ty.int IntKind.i64).dflt ≥ (0 : Int)) = false → ((!hasN (↑s : Int).toNat (L.getD k.toNat (Ty.int IntKind.i64).dflt) == false) = true → R (D.v (Value.bool false), [], [])) ∧ ((!hasN (↑s : Int).toNat (L.getD k.toNat (Ty.int IntKind.i64).dflt) == false) = false → SameK (KK m4 2) (KK m4 2) ∧ G 2 (stOf 73 [0, 5, 56, 57, 58] [D.sl false false (Ty.int IntKind.i64) L, D.v (Value.int IntKind.u64 (↑s : Int)), D.sl false false (Ty.int IntKind.i64) L, D.v (Value.int IntKind.i64 (↑L.length : Int)), D.v (Value.int IntKind.i64 (IntKind.i64.wrap (k + (1 : Int))))] [])))) ∧ (decide (k < (↑L.length : Int)) = false → R (D.v (Value.bool true), [], []))) hmG (fun G R => by kernel_rfl) ?_
    have hsl : s < W64 := by rw [hs]; exact of_lt L 0 (by decide)
    have hx := ih (k + 1) (by omega) (by omega)
    have hm : L.getD k.toNat (Ty.int IntKind.i64).dflt ∈ L := getI_mem (by omega)
    generalize L.getD k.toNat (Ty.int IntKind.i64).dflt = y at hm ⊢
    have c := d26 s y hsl
    have key : hasN s y = (decide (y ≥ 0) && decide (y ≤ 63)) := by
      rw [hs, Bool.eq_iff_iff, has_of]
      simp only [hm, true_and, Bool.and_eq_true, decide_eq_true_eq]
      omega
    rw [Int.toNat_natCast, wrG (by omega) (by omega)]
    refine ⟨fun _ => ⟨h0, by omega, c, rfl, rfl, fun h => ?_, fun h => ?_⟩, fun h => ?_⟩
    · rw [key, h, Bool.true_and]
      exact ⟨fun h => by simp at h, fun _ => ⟨SameK.same _, hx⟩⟩
    · rw [key, h, Bool.false_and]
      exact ⟨fun h => by simp at h, fun _ => ⟨SameK.same _, hx⟩⟩
    · rfl

theorem b4 (L : List Int) (s : Nat) (hL : (L.length : Int) ≤ 9223372036854775807) (i l x : Int) (i0 : 0 ≤ i ∧ i < 64) (z : Nat) : ∀ (k : Int) (b : Bool), 0 ≤ k → k + z = L.length → (b || (L.drop k.toNat).any (· == x)) = true → l < x → x < 64 → GetsK Tryd.prog Tryd.f4.results.toList [none] (KK m4) 0 (.v (.bool true), [], []) 0 (stOf 73 [0,5,6,24,25,26] [slI L, u64 s, .v (.int .i64 x), .own 0 0 (listN s).length none, .v (.int .i64 ((listN s).length : Int)), .v (.int .i64 (i + 1))] [.live (.data 3 (.int .i64) (listN s))]) → GetsK Tryd.prog Tryd.f4.results.toList [none] (KK m4) 0 (.v (.bool true), [], []) 1 (stOf 73 [0,5,6,8,9,24,25,26,30,31,32] [slI L, u64 s, .v (.int .i64 l), .v (.int .i64 x), .v (.bool b), .own 0 0 (listN s).length none, .v (.int .i64 ((listN s).length : Int)), .v (.int .i64 i), slI L, .v (.int .i64 (L.length : Int)), .v (.int .i64 k)] [.live (.data 3 (.int .i64) (listN s))]) := by
  induction z with
  | zero =>
    intro k b h0 hk hb hl hx hn
    refine gets_vc spM (fun k => if k = 0 then [0,5,6,24,25,26] else if k = 1 then [0,5,6,8,9,24,25,26,30,31,32] else [0,5,56,57,58]) (fun _ => []) 400 (.fork (.fork (.hd 1) (.hd 1)) (.fork (.t (.t .stop)) (.fork (.t .stop) (.fork .stop (.hd 0))))) (V := fun G R => (decide (k < (↑L.length : Int)) = true → (0 : Int) ≤ k ∧ k < (↑L.length : Int) ∧ (b = true → SameK (KK m4 1) (KK m4 1) ∧ G 1 (stOf 73 [0, 5, 6, 8, 9, 24, 25, 26, 30, 31, 32] [D.sl false false (Ty.int IntKind.i64) L, D.v (Value.int IntKind.u64 (↑s : Int)), D.v (Value.int IntKind.i64 l), D.v (Value.int IntKind.i64 x), D.v (Value.bool true), D.own 0 0 (listN s).length none, D.v (Value.int IntKind.i64 (↑(listN s).length : Int)), D.v (Value.int IntKind.i64 i), D.sl false false (Ty.int IntKind.i64) L, D.v (Value.int IntKind.i64 (↑L.length : Int)), D.v (Value.int IntKind.i64 (IntKind.i64.wrap (k + (1 : Int))))] [Slot.live (Row.data 3 (Ty.int IntKind.i64) (listN s))])) ∧ (b = false → SameK (KK m4 1) (KK m4 1) ∧ G 1 (stOf 73 [0, 5, 6, 8, 9, 24, 25, 26, 30, 31, 32] [D.sl false false (Ty.int IntKind.i64) L, D.v (Value.int IntKind.u64 (↑s : Int)), D.v (Value.int IntKind.i64 l), D.v (Value.int IntKind.i64 x), D.v (Value.bool (L.getD k.toNat (Ty.int IntKind.i64).dflt == x)), D.own 0 0 (listN s).length none, D.v (Value.int IntKind.i64 (↑(listN s).length : Int)), D.v (Value.int IntKind.i64 i), D.sl false false (Ty.int IntKind.i64) L, D.v (Value.int IntKind.i64 (↑L.length : Int)), D.v (Value.int IntKind.i64 (IntKind.i64.wrap (k + (1 : Int))))] [Slot.live (Row.data 3 (Ty.int IntKind.i64) (listN s))]))) ∧ (decide (k < (↑L.length : Int)) = false → ((!b) = true → true = true ∧ true = true ∧ R (D.v (Value.bool false), [], [])) ∧ ((!b) = false → (decide (x ≤ l) = true → true = true ∧ R (D.v (Value.bool false), [], [])) ∧ (decide (x ≤ l) = false → (decide (x > (63 : Int)) = true → R (D.v (Value.bool false), [], [])) ∧ (decide (x > (63 : Int)) = false → SameK (KK m4 0) (KK m4 0) ∧ G 0 (stOf 73 [0, 5, 6, 24, 25, 26] [D.sl false false (Ty.int IntKind.i64) L, D.v (Value.int IntKind.u64 (↑s : Int)), D.v (Value.int IntKind.i64 x), D.own 0 0 (listN s).length none, D.v (Value.int IntKind.i64 (↑(listN s).length : Int)), D.v (Value.int IntKind.i64 (IntKind.i64.wrap (i + (1 : Int))))] [Slot.live (Row.data 3 (Ty.int IntKind.i64) (listN s))])))))) hmG (fun G R => by kernel_rfl) ?_
    rw [wrG (n := i + 1) (by omega) (by omega)]
    rw [List.drop_eq_nil_of_le (by omega), List.any_nil, Bool.or_false] at hb
    refine ⟨fun h => ?_, fun _ => ⟨fun h => ?_, fun _ => ⟨fun h => ?_, fun _ => ⟨fun h => ?_, fun _ => ⟨SameK.same _, hn⟩⟩⟩⟩⟩
    · rw [decide_eq_true_eq] at h
      omega
    · rw [hb] at h
      cases h
    · rw [decide_eq_true_eq] at h
      omega
    · rw [decide_eq_true_eq] at h
      omega
  | succ z ih =>
    intro k b h0 hk hb hl hx hn
    refine gets_vc spM (fun k => if k = 0 then [0,5,6,24,25,26] else if k = 1 then [0,5,6,8,9,24,25,26,30,31,32] else [0,5,56,57,58]) (fun _ => []) 400 (.fork (.fork (.hd 1) (.hd 1)) (.fork (.t (.t .stop)) (.fork (.t .stop) (.fork .stop (.hd 0))))) (V := fun G R => (decide (k < (↑L.length : Int)) = true → (0 : Int) ≤ k ∧ k < (↑L.length : Int) ∧ (b = true → SameK (KK m4 1) (KK m4 1) ∧ G 1 (stOf 73 [0, 5, 6, 8, 9, 24, 25, 26, 30, 31, 32] [D.sl false false (Ty.int IntKind.i64) L, D.v (Value.int IntKind.u64 (↑s : Int)), D.v (Value.int IntKind.i64 l), D.v (Value.int IntKind.i64 x), D.v (Value.bool true), D.own 0 0 (listN s).length none, D.v (Value.int IntKind.i64 (↑(listN s).length : Int)), D.v (Value.int IntKind.i64 i), D.sl false false (Ty.int IntKind.i64) L, D.v (Value.int IntKind.i64 (↑L.length : Int)), D.v (Value.int IntKind.i64 (IntKind.i64.wrap (k + (1 : Int))))] [Slot.live (Row.data 3 (Ty.int IntKind.i64) (listN s))])) ∧ (b = false → SameK (KK m4 1) (KK m4 1) ∧ G 1 (stOf 73 [0, 5, 6, 8, 9, 24, 25, 26, 30, 31, 32] [D.sl false false (Ty.int IntKind.i64) L, D.v (Value.int IntKind.u64 (↑s : Int)), D.v (Value.int IntKind.i64 l), D.v (Value.int IntKind.i64 x), D.v (Value.bool (L.getD k.toNat (Ty.int IntKind.i64).dflt == x)), D.own 0 0 (listN s).length none, D.v (Value.int IntKind.i64 (↑(listN s).length : Int)), D.v (Value.int IntKind.i64 i), D.sl false false (Ty.int IntKind.i64) L, D.v (Value.int IntKind.i64 (↑L.length : Int)), D.v (Value.int IntKind.i64 (IntKind.i64.wrap (k + (1 : Int))))] [Slot.live (Row.data 3 (Ty.int IntKind.i64) (listN s))]))) ∧ (decide (k < (↑L.length : Int)) = false → ((!b) = true → true = true ∧ true = true ∧ R (D.v (Value.bool false), [], [])) ∧ ((!b) = false → (decide (x ≤ l) = true → true = true ∧ R (D.v (Value.bool false), [], [])) ∧ (decide (x ≤ l) = false → (decide (x > (63 : Int)) = true → R (D.v (Value.bool false), [], [])) ∧ (decide (x > (63 : Int)) = false → SameK (KK m4 0) (KK m4 0) ∧ G 0 (stOf 73 [0, 5, 6, 24, 25, 26] [D.sl false false (Ty.int IntKind.i64) L, D.v (Value.int IntKind.u64 (↑s : Int)), D.v (Value.int IntKind.i64 x), D.own 0 0 (listN s).length none, D.v (Value.int IntKind.i64 (↑(listN s).length : Int)), D.v (Value.int IntKind.i64 (IntKind.i64.wrap (i + (1 : Int))))] [Slot.live (Row.data 3 (Ty.int IntKind.i64) (listN s))])))))) hmG (fun G R => by kernel_rfl) ?_
    have hd := drop_at (xs := L) (i := k) (0 : Int) h0 (by omega)
    rw [wrG (n := k + 1) (by omega) (by omega)]
    rw [hd, List.any_cons] at hb
    refine ⟨fun _ => ⟨h0, by omega, fun h => ⟨SameK.same _, ih (k + 1) true (by omega) (by omega) (by rw [Bool.true_or]) hl hx hn⟩, fun h => ⟨SameK.same _, ih (k + 1) _ (by omega) (by omega) ?_ hl hx hn⟩⟩, fun h => ?_⟩
    · rw [h, Bool.false_or] at hb
      exact hb
    · rw [decide_eq_false_iff_not] at h
      omega

theorem a4 (L : List Int) (s : Nat) (hL : (L.length : Int) ≤ 9223372036854775807) (hs : s = ofN L) (z : Nat) : ∀ (i l : Int), 0 ≤ i → i + z = (listN s).length → (i = 0 → l = -1) → (0 < i → l = (listN s).getD (i.toNat - 1) 0) → GetsK Tryd.prog Tryd.f4.results.toList [none] (KK m4) 0 (.v (.bool true), [], []) 0 (stOf 73 [0,5,6,24,25,26] [slI L, u64 s, .v (.int .i64 l), .own 0 0 (listN s).length none, .v (.int .i64 ((listN s).length : Int)), .v (.int .i64 i)] [.live (.data 3 (.int .i64) (listN s))]) := by
  induction z with
  | zero =>
    intro i l h0 hi h1 h2
    refine gets_vc spM (fun k => if k = 0 then [0,5,6,24,25,26] else if k = 1 then [0,5,6,8,9,24,25,26,30,31,32] else [0,5,56,57,58]) (fun _ => []) 400 (.fork (.hd 1) (.hd 2)) (V := fun G R => (decide (i < (↑(listN s).length : Int)) = true → (0 : Int) ≤ i ∧ i < (↑(listN s).length : Int) ∧ 0 + i.toNat < (listN s).length ∧ SameK (KK m4 1) (KK m4 1) ∧ G 1 (stOf 73 [0, 5, 6, 8, 9, 24, 25, 26, 30, 31, 32] [D.sl false false (Ty.int IntKind.i64) L, D.v (Value.int IntKind.u64 (↑s : Int)), D.v (Value.int IntKind.i64 l), D.v (Value.int IntKind.i64 ((listN s).getD (0 + i.toNat) (Ty.int IntKind.i64).dflt)), D.v (Value.bool false), D.own 0 0 (listN s).length none, D.v (Value.int IntKind.i64 (↑(listN s).length : Int)), D.v (Value.int IntKind.i64 i), D.sl false false (Ty.int IntKind.i64) L, D.v (Value.int IntKind.i64 (↑L.length : Int)), D.v (Value.int IntKind.i64 (0 : Int))] [Slot.live (Row.data 3 (Ty.int IntKind.i64) (listN s))])) ∧ (decide (i < (↑(listN s).length : Int)) = false → SameK (KK m4 2) (KK m4 2) ∧ G 2 (stOf 73 [0, 5, 56, 57, 58] [D.sl false false (Ty.int IntKind.i64) L, D.v (Value.int IntKind.u64 (↑s : Int)), D.sl false false (Ty.int IntKind.i64) L, D.v (Value.int IntKind.i64 (↑L.length : Int)), D.v (Value.int IntKind.i64 (0 : Int))] []))) hmG (fun G R => by kernel_rfl) ?_
    refine ⟨fun h => ?_, fun _ => ⟨SameK.same _, c4 L s hL hs L.length 0 (by omega) (by omega)⟩⟩
    rw [decide_eq_true_eq] at h
    omega
  | succ z ih =>
    intro i l h0 hi h1 h2
    refine gets_vc spM (fun k => if k = 0 then [0,5,6,24,25,26] else if k = 1 then [0,5,6,8,9,24,25,26,30,31,32] else [0,5,56,57,58]) (fun _ => []) 400 (.fork (.hd 1) (.hd 2)) (V := fun G R => (decide (i < (↑(listN s).length : Int)) = true → (0 : Int) ≤ i ∧ i < (↑(listN s).length : Int) ∧ 0 + i.toNat < (listN s).length ∧ SameK (KK m4 1) (KK m4 1) ∧ G 1 (stOf 73 [0, 5, 6, 8, 9, 24, 25, 26, 30, 31, 32] [D.sl false false (Ty.int IntKind.i64) L, D.v (Value.int IntKind.u64 (↑s : Int)), D.v (Value.int IntKind.i64 l), D.v (Value.int IntKind.i64 ((listN s).getD (0 + i.toNat) (Ty.int IntKind.i64).dflt)), D.v (Value.bool false), D.own 0 0 (listN s).length none, D.v (Value.int IntKind.i64 (↑(listN s).length : Int)), D.v (Value.int IntKind.i64 i), D.sl false false (Ty.int IntKind.i64) L, D.v (Value.int IntKind.i64 (↑L.length : Int)), D.v (Value.int IntKind.i64 (0 : Int))] [Slot.live (Row.data 3 (Ty.int IntKind.i64) (listN s))])) ∧ (decide (i < (↑(listN s).length : Int)) = false → SameK (KK m4 2) (KK m4 2) ∧ G 2 (stOf 73 [0, 5, 56, 57, 58] [D.sl false false (Ty.int IntKind.i64) L, D.v (Value.int IntKind.u64 (↑s : Int)), D.sl false false (Ty.int IntKind.i64) L, D.v (Value.int IntKind.i64 (↑L.length : Int)), D.v (Value.int IntKind.i64 (0 : Int))] []))) hmG (fun G R => by kernel_rfl) ?_
    have hl := list_len s
    refine ⟨fun _ => ⟨h0, by omega, by omega, SameK.same _, ?_⟩, fun h => ?_⟩
    · rw [Nat.zero_add]
      have hm : (listN s).getD i.toNat (Ty.int IntKind.i64).dflt ∈ listN s := getI_mem (by omega)
      have hlt : l < (listN s).getD i.toNat (Ty.int IntKind.i64).dflt := by
        have h3 := mem_list.1 hm
        rw [hs] at h3
        have h4 := has_of.1 h3
        rw [← hs] at h4
        by_cases hi0 : i = 0
        · rw [h1 hi0]
          omega
        · rw [h2 (by omega)]
          have hr := lst_rise s 64 0
          rw [List.pairwise_iff_getElem] at hr
          have := hr (i.toNat - 1) i.toNat (by show _ < (listN s).length; omega) (by show _ < (listN s).length; omega) (by omega)
          rw [getI_eq (xs := listN s) (by omega), getI_eq (xs := listN s) (by omega)]
          exact this
      have hnx := ih (i + 1) ((listN s).getD i.toNat (Ty.int IntKind.i64).dflt) (by omega) (by omega) (fun h => by omega) (fun _ => by
        rw [show (i + 1).toNat - 1 = i.toNat by omega]; rfl)
      generalize (listN s).getD i.toNat (Ty.int IntKind.i64).dflt = y at hm hlt hnx ⊢
      have h3 := mem_list.1 hm
      rw [hs] at h3
      have h4 := has_of.1 h3
      refine b4 L s hL i l y ⟨h0, by omega⟩ L.length 0 false (by omega) (by omega) ?_ hlt (by omega) hnx
      rw [Bool.false_or, List.any_eq_true]
      exact ⟨y, h4.1, by simp⟩
    · rw [decide_eq_false_iff_not] at h
      omega

theorem d4 (L : List Int) (m : Nat) (hm : m < W64) (hL : (L.length : Int) ≤ 9223372036854775807) : Con Tryd.prog 4 [] [slI L, u64 m] ((.v (.bool true))) [] [] := by
  refine con_vc (how := [none]) (c := m4) (K := (KK m4)) spM (fun k => if k = 0 then [0,5,6,24,25,26] else if k = 1 then [0,5,6,8,9,24,25,26,30,31,32] else [0,5,56,57,58]) (fun _ => []) 400 (.fork .stop (.fork .stop (.hd 0))) (V := fun G R => Con Tryd.prog 20 [] [] (D.v (Value.bool true)) [] [] ∧ ((!true) = true → R (D.v (Value.bool false), [], [])) ∧ ((!true) = false → Con Tryd.prog 25 [] [D.v (Value.int IntKind.u64 (↑m : Int))] (D.own 0 0 (listN (↑m : Int).toNat).length none) [] [Row.data 3 (Ty.int IntKind.i64) (listN (↑m : Int).toNat)] ∧ Value.int IntKind.u64 (↑m : Int) = Value.int IntKind.u64 (↑m : Int) ∧ Con Tryd.prog 24 [] [D.sl false false (Ty.int IntKind.i64) (List.take (listN (↑m : Int).toNat).length (List.drop 0 (listN (↑m : Int).toNat)))] (D.v (Value.int IntKind.u64 (↑(ofN (List.take (listN (↑m : Int).toNat).length (List.drop 0 (listN (↑m : Int).toNat)))) : Int))) [] [] ∧ List.take (listN (↑m : Int).toNat).length (List.drop 0 (listN (↑m : Int).toNat)) = List.take (listN (↑m : Int).toNat).length (List.drop 0 (listN (↑m : Int).toNat)) ∧ (((↑(ofN (List.take (listN (↑m : Int).toNat).length (List.drop 0 (listN (↑m : Int).toNat)))) : Int) != (↑m : Int)) = true → R (D.v (Value.bool false), [], [])) ∧ (((↑(ofN (List.take (listN (↑m : Int).toNat).length (List.drop 0 (listN (↑m : Int).toNat)))) : Int) != (↑m : Int)) = false → Con Tryd.prog 24 [] [D.sl false false (Ty.int IntKind.i64) L] (D.v (Value.int IntKind.u64 (↑(ofN L) : Int))) [] [] ∧ L = L ∧ Con Tryd.prog 25 [] [D.v (Value.int IntKind.u64 (↑(ofN L) : Int))] (D.own 0 0 (listN (↑(ofN L) : Int).toNat).length none) [] [Row.data 3 (Ty.int IntKind.i64) (listN (↑(ofN L) : Int).toNat)] ∧ Value.int IntKind.u64 (↑(ofN L) : Int) = Value.int IntKind.u64 (↑(ofN L) : Int) ∧ SameK (KK m4 0) (KK m4 0) ∧ G 0 (stOf 73 [0, 5, 6, 24, 25, 26] [D.sl false false (Ty.int IntKind.i64) L, D.v (Value.int IntKind.u64 (↑(ofN L) : Int)), D.v (Value.int IntKind.i64 (-1 : Int)), D.own 0 0 (listN (↑(ofN L) : Int).toNat).length none, D.v (Value.int IntKind.i64 (↑(listN (↑(ofN L) : Int).toNat).length : Int)), D.v (Value.int IntKind.i64 (0 : Int))] [Slot.live (Row.data 3 (Ty.int IntKind.i64) (listN (↑(ofN L) : Int).toNat))])))) hmG Tryd.func4 (by kernel_rfl) (by kernel_rfl) (fun G R => by kernel_rfl) ?_
  try dsimp only
  simp only [Int.toNat_natCast, List.drop_zero, List.take_length, of_list hm]
  have hs : ofN L < W64 := of_lt L 0 (by decide)
  have c1 := d24 (listN m) (by have := list_len m; omega)
  rw [of_list hm] at c1
  refine ⟨d20, fun h => (by cases h), fun _ => ⟨d25 m hm, trivial, c1, trivial, fun h => by simp at h, fun _ => ⟨d24 L hL, trivial, d25 _ hs, trivial, SameK.same _, ?_⟩⟩⟩
  exact a4 L _ hL rfl (listN (ofN L)).length 0 (-1) (by omega) (by omega) (fun _ => rfl) (fun h => by omega)

theorem law4 (L : List Int) (m : Int) (h1 : wfS (.sl (.int .i64)) L) (h2 : wfS (.int .u64) m) : Con Tryd.prog 4 [] [slI L, .v (.int .u64 m)] (.v (.bool true)) [] [] := by
  have h3 : 0 ≤ m ∧ m ≤ 18446744073709551615 := h2
  have h4 : L.length * 8 ≤ reachBytes := h1.1
  have e : m = (m.toNat : Int) := by omega
  rw [e]
  refine d4 L m.toNat ?_ ?_
  · show m.toNat < 18446744073709551616
    omega
  · unfold reachBytes at h4
    omega


end Go.Proofs.YtnakmganodkliaaDoorAm
