/- Sets of numbers: the sequence, stopped and again. -/
import Derived.Test.YtnakmganodkliaaDoorMaD
set_option linter.unusedVariables false
set_option linter.unusedSimpArgs false
set_option maxRecDepth 100000
namespace Go.Proofs.YtnakmganodkliaaDoorAm
open Go

/-- Behind both ranges. -/
theorem z3 (m : Nat) (n : Int) (hm : m < W64) (f : List Int) (hf : f = (listN m).take (max n 0).toNat) : GetsK Tryd.prog Tryd.f3.results.toList [none] (KX m3) 0 (.v (.bool true), [], []) 301 (stOf 50 [0,3,4,6,7,25] [u64 m, .ptr 0 0 0, .ptr 1 0 0, .ptr 2 0 0, .ptr 3 0 0, .fn 72 [.rptr [u64 m]]] [.live (.box 3 [.v (.int .i64 n)]), .live (.box 4 [.v (.bool false)]), .live (.box 27 [.own 4 0 (List.length (α := Int) (listN m)) none]), .live (.box 27 [.own 5 0 (List.length (α := Int) f) none]), .live (.data 3 (.int .i64) (listN m)), .live (.data 3 (.int .i64) f)]) := by
  refine gets_vc spM (fun _ => []) (fun _ => []) 400 (.fork .stop .stop) (V := fun G R => Con Tryd.prog 22 [] [D.v (Value.int IntKind.u64 (↑m : Int))] (D.own 0 0 (listN (↑m : Int).toNat).length none) [] [Row.data 3 (Ty.int IntKind.i64) (listN (↑m : Int).toNat)] ∧ Value.int IntKind.u64 (↑m : Int) = Value.int IntKind.u64 (↑m : Int) ∧ Con Tryd.prog 23 [] [D.sl false false (Ty.int IntKind.i64) (List.take (listN m).length (List.drop 0 (listN m))), D.sl false false (Ty.int IntKind.i64) (List.take (listN (↑m : Int).toNat).length (List.drop 0 (listN (↑m : Int).toNat)))] (D.v (Value.bool (decide (List.take (listN m).length (List.drop 0 (listN m)) = List.take (listN (↑m : Int).toNat).length (List.drop 0 (listN (↑m : Int).toNat)))))) [] [] ∧ List.take (listN m).length (List.drop 0 (listN m)) = List.take (listN m).length (List.drop 0 (listN m)) ∧ List.take (listN (↑m : Int).toNat).length (List.drop 0 (listN (↑m : Int).toNat)) = List.take (listN (↑m : Int).toNat).length (List.drop 0 (listN (↑m : Int).toNat)) ∧ (decide (List.take (listN m).length (List.drop 0 (listN m)) = List.take (listN (↑m : Int).toNat).length (List.drop 0 (listN (↑m : Int).toNat))) = true → (0 : Int) ≤ (0 : Int) ∧ ((0 : Int) ≤ if (↑(listN (↑m : Int).toNat).length : Int) < if (0 : Int) > n then (0 : Int) else n then (↑(listN (↑m : Int).toNat).length : Int) else if (0 : Int) > n then (0 : Int) else n) ∧ (if (↑(listN (↑m : Int).toNat).length : Int) < if (0 : Int) > n then (0 : Int) else n then (↑(listN (↑m : Int).toNat).length : Int) else if (0 : Int) > n then (0 : Int) else n) ≤ (↑((listN (↑m : Int).toNat).length - 0) : Int) ∧ Con Tryd.prog 23 [] [D.sl false false (Ty.int IntKind.i64) (List.take f.length (List.drop 0 f)), D.sl false false (Ty.int IntKind.i64) (List.take ((if (↑(listN (↑m : Int).toNat).length : Int) < if (0 : Int) > n then (0 : Int) else n then (↑(listN (↑m : Int).toNat).length : Int) else if (0 : Int) > n then (0 : Int) else n).toNat - 0) (List.drop 0 (listN (↑m : Int).toNat)))] (D.v (Value.bool (decide (List.take f.length (List.drop 0 f) = List.take ((if (↑(listN (↑m : Int).toNat).length : Int) < if (0 : Int) > n then (0 : Int) else n then (↑(listN (↑m : Int).toNat).length : Int) else if (0 : Int) > n then (0 : Int) else n).toNat - 0) (List.drop 0 (listN (↑m : Int).toNat)))))) [] [] ∧ List.take f.length (List.drop 0 f) = List.take f.length (List.drop 0 f) ∧ List.take ((if (↑(listN (↑m : Int).toNat).length : Int) < if (0 : Int) > n then (0 : Int) else n then (↑(listN (↑m : Int).toNat).length : Int) else if (0 : Int) > n then (0 : Int) else n).toNat - 0) (List.drop 0 (listN (↑m : Int).toNat)) = List.take ((if (↑(listN (↑m : Int).toNat).length : Int) < if (0 : Int) > n then (0 : Int) else n then (↑(listN (↑m : Int).toNat).length : Int) else if (0 : Int) > n then (0 : Int) else n).toNat - 0) (List.drop 0 (listN (↑m : Int).toNat)) ∧ R (D.v (Value.bool (decide (List.take f.length (List.drop 0 f) = List.take ((if (↑(listN (↑m : Int).toNat).length : Int) < if (0 : Int) > n then (0 : Int) else n then (↑(listN (↑m : Int).toNat).length : Int) else if (0 : Int) > n then (0 : Int) else n).toNat - 0) (List.drop 0 (listN (↑m : Int).toNat))))), [], [])) ∧ (decide (List.take (listN m).length (List.drop 0 (listN m)) = List.take (listN (↑m : Int).toNat).length (List.drop 0 (listN (↑m : Int).toNat))) = false → R (D.v (Value.bool false), [], []))) hmG (fun G R => by kernel_rfl) ?_
  have hl := list_len m
  have hle : f.length ≤ 64 := by rw [hf, List.length_take]; omega
  simp only [Int.toNat_natCast, List.drop_zero, List.take_length, Nat.sub_zero]
  have hk : ∃ k : Int, k = (if ((listN m).length : Int) < (if 0 > n then 0 else n) then ((listN m).length : Int) else if 0 > n then 0 else n) ∧ 0 ≤ k ∧ k ≤ (listN m).length ∧ (listN m).take k.toNat = f := by
    refine ⟨_, rfl, ?_⟩
    have hn : (if 0 > n then 0 else n) = max n 0 := by split <;> omega
    rw [hn]
    split
    · refine ⟨by omega, by omega, ?_⟩
      rw [hf, Int.toNat_natCast, List.take_length, List.take_of_length_le (by omega)]
    · refine ⟨by omega, by omega, ?_⟩
      rw [hf]
  obtain ⟨k, e, k0, k1, hk⟩ := hk
  rw [← e, hk]
  have c1 := d41 (listN m) (listN m) (by omega)
  have c2 := d41 f f (by omega)
  refine ⟨d22 m hm, trivial, (by rw [decide_eq_true trivial]; rw [decide_eq_true rfl] at c1; exact c1), trivial, trivial, fun _ => ⟨by omega, k0, k1, c2, trivial, trivial, ?_⟩, fun h => ?_⟩
  · simp
  · simp at h

/-- The second range. -/
theorem y3 (m : Nat) (n : Int) (hm : m < W64) (f : List Int) (hf : f = (listN m).take (max n 0).toNat) : ∀ (zs ys : List Int), ys ++ zs = listN m → RndsK Tryd.prog m3 Tryd.f3.results.toList [none] 0 (.v (.bool true), [], []) 1 (vals zs) (stOf 50 [0,3,4,6,7,25] [u64 m, .ptr 0 0 0, .ptr 1 0 0, .ptr 2 0 0, .ptr 3 0 0, .fn 72 [.rptr [u64 m]]] [.live (.box 3 [.v (.int .i64 n)]), .live (.box 4 [.v (.bool false)]), .live (.box 27 [.own 4 0 (List.length (α := Int) ys) none]), .live (.box 27 [.own 5 0 (List.length (α := Int) f) none]), .live (.data 3 (.int .i64) ys), .live (.data 3 (.int .i64) f)]) := by
  intro zs
  induction zs with
  | nil =>
    intro ys h
    rw [List.append_nil] at h
    subst h
    exact rndsK_nil (by decide) (z3 m n hm f hf)
  | cons z zs ih =>
    intro ys h
    have hl : ys.length < 64 := by have := list_len m; rw [← h] at this; simp at this; omega
    refine rndsK_cons spM [3,4,6,7,9] (fun _ => [0,3,4,6,7,25]) (fun _ => [⟨6, 3, .int .i64⟩, ⟨7, 3, .int .i64⟩]) 400 (.fork .stop .stop) (V := fun GN GJ => SameK [Item.beginRound, Item.code (rfB (FF m3 1))] [Item.beginRound, Item.code (rfB (FF m3 1))] ∧ (decide ((↑ys.length : Int) > (64 : Int)) = true → ys.length = ys.length ∧ f.length = f.length ∧ GJ Code.ret (stOf 50 [0, 3, 4, 6, 7, 25] [D.v (Value.int IntKind.u64 (↑m : Int)), D.ptr 0 0 0, D.ptr 1 0 0, D.ptr 2 0 0, D.ptr 3 0 0, D.fn 72 [D.rptr [D.v (Value.int IntKind.u64 (↑m : Int))]]] [Slot.live (Row.box 3 [D.v (Value.int IntKind.i64 n)]), Slot.live (Row.box 4 [D.v (Value.bool false)]), Slot.live (Row.box 27 [D.own 4 0 ys.length none]), Slot.live (Row.box 27 [D.own 5 0 f.length none]), Slot.live (Row.data 3 (Ty.int IntKind.i64) ys), Slot.live (Row.data 3 (Ty.int IntKind.i64) f)])) ∧ (decide ((↑ys.length : Int) > (64 : Int)) = false → roomy Tryd.prog 3 (ys.length + 1) ∧ f.length = f.length ∧ GN (stOf 50 [0, 3, 4, 6, 7, 25] [D.v (Value.int IntKind.u64 (↑m : Int)), D.ptr 0 0 0, D.ptr 1 0 0, D.ptr 2 0 0, D.ptr 3 0 0, D.fn 72 [D.rptr [D.v (Value.int IntKind.u64 (↑m : Int))]]] [Slot.live (Row.box 3 [D.v (Value.int IntKind.i64 n)]), Slot.live (Row.box 4 [D.v (Value.bool false)]), Slot.live (Row.box 27 [D.own 4 0 (ys.length + 1) none]), Slot.live (Row.box 27 [D.own 5 0 f.length none]), Slot.live (Row.data 3 (Ty.int IntKind.i64) (List.take ys.length (List.drop 0 ys) ++ List.take 1 (List.drop 0 [z]))), Slot.live (Row.data 3 (Ty.int IntKind.i64) f)]))) hmG (by decide) (by rfl) (fun GN GJ => by kernel_rfl) ?_
    refine ⟨SameK.same _, fun h1 => ?_, fun _ => ⟨roomI (by omega), rfl, ?_⟩⟩
    · rw [decide_eq_true_eq] at h1
      omega
    · have := ih (ys ++ [z]) (by simpa using h)
      rw [take_app]
      rw [List.length_append] at this
      exact this

/-- Behind the first range. -/
theorem x3 (m : Nat) (n : Int) (hm : m < W64) (f : List Int) (hf : f = (listN m).take (max n 0).toNat) : GetsK Tryd.prog Tryd.f3.results.toList [none] (KX m3) 0 (.v (.bool true), [], []) 300 (stOf 50 [0,3,4,5,6,7,15] [u64 m, .ptr 0 0 0, .ptr 1 0 0, .fn 72 [.rptr [u64 m]], .ptr 2 0 0, .ptr 3 0 0, .fn 72 [.rptr [u64 m]]] [.live (.box 3 [.v (.int .i64 n)]), .live (.box 4 [.v (.bool false)]), .live (.box 27 [.own 4 0 (List.length (α := Int) []) none]), .live (.box 27 [.own 5 0 (List.length (α := Int) f) none]), .live (.data 3 (.int .i64) []), .live (.data 3 (.int .i64) f)]) ∧ GetsK Tryd.prog Tryd.f3.results.toList [none] (KX m3) 0 (.v (.bool true), [], []) 600 (stOf 50 [0,3,4,5,6,7,15] [u64 m, .ptr 0 0 0, .ptr 1 0 0, .fn 72 [.rptr [u64 m]], .ptr 2 0 0, .ptr 3 0 0, .fn 72 [.rptr [u64 m]]] [.live (.box 3 [.v (.int .i64 n)]), .live (.box 4 [.v (.bool false)]), .live (.box 27 [.own 4 0 (List.length (α := Int) []) none]), .live (.box 27 [.own 5 0 (List.length (α := Int) f) none]), .live (.data 3 (.int .i64) []), .live (.data 3 (.int .i64) f)]) := by
  constructor
  · refine gets_vc spM (fun k => if k = 101 then [0,3,4,6,7,25] else [0,3,4,5,6,7,15]) (fun _ => [⟨6, 3, .int .i64⟩, ⟨7, 3, .int .i64⟩]) 400 (.cut 101) (V := fun G R => SameK (KX m3 101) (KX m3 101) ∧ G 101 (stOf 50 [0, 3, 4, 6, 7, 25] [D.v (Value.int IntKind.u64 (↑m : Int)), D.ptr 0 0 0, D.ptr 1 0 0, D.ptr 2 0 0, D.ptr 3 0 0, D.fn 72 [D.rptr [D.v (Value.int IntKind.u64 (↑m : Int))]]] [Slot.live (Row.box 3 [D.v (Value.int IntKind.i64 n)]), Slot.live (Row.box 4 [D.v (Value.bool false)]), Slot.live (Row.box 27 [D.own 4 0 0 none]), Slot.live (Row.box 27 [D.own 5 0 f.length none]), Slot.live (Row.data 3 (Ty.int IntKind.i64) []), Slot.live (Row.data 3 (Ty.int IntKind.i64) f)])) hmG (fun G R => by kernel_rfl) ?_
    exact ⟨SameK.same _, getsK_range (i := 1) (by decide) rfl rfl ⟨rfl, rfl⟩ (it72 m hm) (y3 m n hm f hf _ [] rfl)⟩
  · refine gets_vc spM (fun k => if k = 101 then [0,3,4,6,7,25] else [0,3,4,5,6,7,15]) (fun _ => [⟨6, 3, .int .i64⟩, ⟨7, 3, .int .i64⟩]) 400 (.cut 101) (V := fun G R => SameK (KX m3 101) (KX m3 101) ∧ G 101 (stOf 50 [0, 3, 4, 6, 7, 25] [D.v (Value.int IntKind.u64 (↑m : Int)), D.ptr 0 0 0, D.ptr 1 0 0, D.ptr 2 0 0, D.ptr 3 0 0, D.fn 72 [D.rptr [D.v (Value.int IntKind.u64 (↑m : Int))]]] [Slot.live (Row.box 3 [D.v (Value.int IntKind.i64 n)]), Slot.live (Row.box 4 [D.v (Value.bool false)]), Slot.live (Row.box 27 [D.own 4 0 0 none]), Slot.live (Row.box 27 [D.own 5 0 f.length none]), Slot.live (Row.data 3 (Ty.int IntKind.i64) []), Slot.live (Row.data 3 (Ty.int IntKind.i64) f)])) hmG (fun G R => by kernel_rfl) ?_
    exact ⟨SameK.same _, getsK_range (i := 1) (by decide) rfl rfl ⟨rfl, rfl⟩ (it72 m hm) (y3 m n hm f hf _ [] rfl)⟩

/-- The first range. -/
theorem w3 (m : Nat) (n : Int) (hm : m < W64) : ∀ (zs ys : List Int), ys ++ zs = listN m → (ys.length : Int) ≤ max n 0 → RndsK Tryd.prog m3 Tryd.f3.results.toList [none] 0 (.v (.bool true), [], []) 0 (vals zs) (stOf 50 [0,3,4,5,6,7,15] [u64 m, .ptr 0 0 0, .ptr 1 0 0, .fn 72 [.rptr [u64 m]], .ptr 2 0 0, .ptr 3 0 0, .fn 72 [.rptr [u64 m]]] [.live (.box 3 [.v (.int .i64 n)]), .live (.box 4 [.v (.bool false)]), .live (.box 27 [.own 4 0 (List.length (α := Int) []) none]), .live (.box 27 [.own 5 0 (List.length (α := Int) ys) none]), .live (.data 3 (.int .i64) []), .live (.data 3 (.int .i64) ys)]) := by
  intro zs
  induction zs with
  | nil =>
    intro ys h hle
    rw [List.append_nil] at h
    exact rndsK_nil (by decide) (x3 m n hm ys (by rw [h, List.take_of_length_le (by rw [← h]; omega)])).1
  | cons z zs ih =>
    intro ys h hle
    have hl : ys.length < 64 := by have := list_len m; rw [← h] at this; simp at this; omega
    refine rndsK_cons spM [3,4,6,7,8] (fun _ => [0,3,4,5,6,7,15]) (fun _ => [⟨6, 3, .int .i64⟩, ⟨7, 3, .int .i64⟩]) 400 (.fork .stop .stop) (V := fun GN GJ => SameK [Item.beginRound, Item.code (rfB (FF m3 0))] [Item.beginRound, Item.code (rfB (FF m3 0))] ∧ (decide ((↑ys.length : Int) ≥ n) = true → 0 = 0 ∧ ys.length = ys.length ∧ GJ (Code.exit 0) (stOf 50 [0, 3, 4, 5, 6, 7, 15] [D.v (Value.int IntKind.u64 (↑m : Int)), D.ptr 0 0 0, D.ptr 1 0 0, D.fn 72 [D.rptr [D.v (Value.int IntKind.u64 (↑m : Int))]], D.ptr 2 0 0, D.ptr 3 0 0, D.fn 72 [D.rptr [D.v (Value.int IntKind.u64 (↑m : Int))]]] [Slot.live (Row.box 3 [D.v (Value.int IntKind.i64 n)]), Slot.live (Row.box 4 [D.v (Value.bool false)]), Slot.live (Row.box 27 [D.own 4 0 0 none]), Slot.live (Row.box 27 [D.own 5 0 ys.length none]), Slot.live (Row.data 3 (Ty.int IntKind.i64) []), Slot.live (Row.data 3 (Ty.int IntKind.i64) ys)])) ∧ (decide ((↑ys.length : Int) ≥ n) = false → roomy Tryd.prog 3 (ys.length + 1) ∧ 0 = 0 ∧ GN (stOf 50 [0, 3, 4, 5, 6, 7, 15] [D.v (Value.int IntKind.u64 (↑m : Int)), D.ptr 0 0 0, D.ptr 1 0 0, D.fn 72 [D.rptr [D.v (Value.int IntKind.u64 (↑m : Int))]], D.ptr 2 0 0, D.ptr 3 0 0, D.fn 72 [D.rptr [D.v (Value.int IntKind.u64 (↑m : Int))]]] [Slot.live (Row.box 3 [D.v (Value.int IntKind.i64 n)]), Slot.live (Row.box 4 [D.v (Value.bool false)]), Slot.live (Row.box 27 [D.own 4 0 0 none]), Slot.live (Row.box 27 [D.own 5 0 (ys.length + 1) none]), Slot.live (Row.data 3 (Ty.int IntKind.i64) []), Slot.live (Row.data 3 (Ty.int IntKind.i64) (List.take ys.length (List.drop 0 ys) ++ List.take 1 (List.drop 0 [z])))]))) hmG (by decide) (by rfl) (fun GN GJ => by kernel_rfl) ?_
    refine ⟨SameK.same _, fun h1 => ⟨rfl, rfl, by decide, ?_⟩, fun h1 => ⟨roomI (by omega), rfl, ?_⟩⟩
    · rw [decide_eq_true_eq] at h1
      exact (x3 m n hm ys (by rw [← h, List.take_append_of_le_length (by omega), List.take_of_length_le (by omega)])).2
    · rw [decide_eq_false_iff_not] at h1
      have := ih (ys ++ [z]) (by simpa using h) (by simp; omega)
      rw [take_app]
      rw [List.length_append] at this
      exact this

theorem d3 (m : Nat) (n : Int) (hm : m < W64) : Con Tryd.prog 3 [] [u64 m, .v (.int .i64 n)] ((.v (.bool true))) [] [] := by
  refine con_vc (how := [none]) (c := m3) (K := (KX m3)) spM (fun k => if k = 101 then [0,3,4,6,7,25] else [0,3,4,5,6,7,15]) (fun _ => [⟨6, 3, .int .i64⟩, ⟨7, 3, .int .i64⟩]) 400 (.fork .stop (.cut 100)) (V := fun G R => Con Tryd.prog 20 [] [] (D.v (Value.bool true)) [] [] ∧ ((!true) = true → R (D.v (Value.bool false), [], [])) ∧ ((!true) = false → Con Tryd.prog 21 [] [D.v (Value.int IntKind.u64 (↑m : Int))] (D.fn 72 [D.rptr [D.v (Value.int IntKind.u64 (↑m : Int))]]) [] [] ∧ Value.int IntKind.u64 (↑m : Int) = Value.int IntKind.u64 (↑m : Int) ∧ SameK (KX m3 100) (KX m3 100) ∧ G 100 (stOf 50 [0, 3, 4, 5, 6, 7, 15] [D.v (Value.int IntKind.u64 (↑m : Int)), D.ptr 0 0 0, D.ptr 1 0 0, D.fn 72 [D.rptr [D.v (Value.int IntKind.u64 (↑m : Int))]], D.ptr 2 0 0, D.ptr 3 0 0, D.fn 72 [D.rptr [D.v (Value.int IntKind.u64 (↑m : Int))]]] [Slot.live (Row.box 3 [D.v (Value.int IntKind.i64 n)]), Slot.live (Row.box 4 [D.v (Value.bool false)]), Slot.live (Row.box 27 [D.own 4 0 0 none]), Slot.live (Row.box 27 [D.own 5 0 0 none]), Slot.live (Row.data 3 (Ty.int IntKind.i64) []), Slot.live (Row.data 3 (Ty.int IntKind.i64) [])]))) hmG Tryd.func3 (by kernel_rfl) (by kernel_rfl) (fun G R => by kernel_rfl) ?_
  try dsimp only
  refine ⟨d20, fun h => (by cases h), fun _ => ⟨d21 m, rfl, SameK.same _, ?_⟩⟩
  exact getsK_range (i := 0) (by decide) rfl rfl ⟨rfl, rfl⟩ (it72 m hm) (w3 m n hm _ [] rfl (by simp; omega))

theorem law3 (m n : Int) (h2 : wfS (.int .u64) m) : Con Tryd.prog 3 [] [.v (.int .u64 m), .v (.int .i64 n)] (.v (.bool true)) [] [] := by
  have h3 : 0 ≤ m ∧ m ≤ 18446744073709551615 := h2
  have e : m = (m.toNat : Int) := by omega
  rw [e]
  refine d3 m.toNat n ?_
  show m.toNat < 18446744073709551616
  omega


end Go.Proofs.YtnakmganodkliaaDoorAm
