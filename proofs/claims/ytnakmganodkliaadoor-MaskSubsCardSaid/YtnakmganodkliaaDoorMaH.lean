/- Sets of numbers: the first subsets, rising; all of a small set. -/
import Derived.Test.YtnakmganodkliaaDoorMaF
import Derived.Test.YtnakmganodkliaaDoorLf
set_option linter.unusedVariables false
set_option linter.unusedSimpArgs false
set_option maxRecDepth 100000
namespace Go.Proofs.YtnakmganodkliaaDoorAm
open Go

theorem andNot0 {a b : Nat} (h : a &&& b = a) : (BitVec.ofInt 64 (a : Int) &&& ~~~BitVec.ofInt 64 (b : Int)).toNat = 0 := by
  have e : BitVec.ofInt 64 (a : Int) &&& ~~~BitVec.ofInt 64 (b : Int) = 0#64 := by
    rw [BitVec.ofInt_natCast, BitVec.ofInt_natCast]
    apply BitVec.eq_of_getLsbD_eq
    intro i hi
    have hb : (a.testBit i && b.testBit i) = a.testBit i := by rw [← Nat.testBit_and, h]
    rw [BitVec.getLsbD_and, BitVec.getLsbD_not, BitVec.getLsbD_ofNat, BitVec.getLsbD_ofNat, BitVec.getLsbD_zero]
    simp only [hi, decide_true, Bool.true_and]
    cases h1 : a.testBit i
    · rfl
    · rw [h1, Bool.true_and] at hb
      rw [hb]
      rfl
  rw [e]
  rfl
theorem subsL_len (m : Nat) : (subsL m 130).length = min 130 (2 ^ (listN m).length) := by
  unfold subsL
  simp

/-- What is left behind the range. -/
theorem z5f (m : Nat) (hm : m < W64) (W : List Int) (hW : W = subsL m 130) (k l : Nat) (hk : k = W.length) (hl : l = subN m (k - 1)) (R : D × List (Option Row) × List Row → Prop) (hR : R = fun x => x = (.v (.bool true), [], [])) : Con Tryd.prog 29 [] [D.v (Value.int IntKind.u64 (↑m : Int))] (D.v (Value.int IntKind.i64 (↑(listN (↑m : Int).toNat).length : Int))) [] [] ∧ Value.int IntKind.u64 (↑m : Int) = Value.int IntKind.u64 (↑m : Int) ∧ (((↑k : Int) == (↑W.length : Int)) = true → (decide ((↑(listN (↑m : Int).toNat).length : Int) > (7 : Int)) = true → (((↑k : Int) == (130 : Int)) = true → R (D.v (Value.bool true), [], [])) ∧ (((↑k : Int) == (130 : Int)) = false → (decide ((↑(listN (↑m : Int).toNat).length : Int) ≤ (7 : Int)) = true → ¬(↑(listN (↑m : Int).toNat).length : Int) < (0 : Int) ∧ (((↑k : Int) == IntKind.i64.wrap ((1 : Int) * (2 : Int) ^ min (↑(listN (↑m : Int).toNat).length : Int).toNat 64)) = true → R (D.v (Value.bool ((↑l : Int) == (↑m : Int))), [], [])) ∧ (((↑k : Int) == IntKind.i64.wrap ((1 : Int) * (2 : Int) ^ min (↑(listN (↑m : Int).toNat).length : Int).toNat 64)) = false → R (D.v (Value.bool false), [], []))) ∧ (decide ((↑(listN (↑m : Int).toNat).length : Int) ≤ (7 : Int)) = false → false = false ∧ R (D.v (Value.bool false), [], [])))) ∧ (decide ((↑(listN (↑m : Int).toNat).length : Int) > (7 : Int)) = false → false = false ∧ (decide ((↑(listN (↑m : Int).toNat).length : Int) ≤ (7 : Int)) = true → ¬(↑(listN (↑m : Int).toNat).length : Int) < (0 : Int) ∧ (((↑k : Int) == IntKind.i64.wrap ((1 : Int) * (2 : Int) ^ min (↑(listN (↑m : Int).toNat).length : Int).toNat 64)) = true → R (D.v (Value.bool ((↑l : Int) == (↑m : Int))), [], [])) ∧ (((↑k : Int) == IntKind.i64.wrap ((1 : Int) * (2 : Int) ^ min (↑(listN (↑m : Int).toNat).length : Int).toNat 64)) = false → R (D.v (Value.bool false), [], []))) ∧ (decide ((↑(listN (↑m : Int).toNat).length : Int) ≤ (7 : Int)) = false → false = false ∧ R (D.v (Value.bool false), [], [])))) ∧ (((↑k : Int) == (↑W.length : Int)) = false → R (D.v (Value.bool false), [], [])) := by
  have hlen := subsL_len m
  rw [← hW, ← hk] at hlen
  have hp := pow_pos2 (listN m).length
  have h2 : IntKind.i64.wrap (1 * 2 ^ (min ((listN m).length) 64)) = ((2 ^ (listN m).length : Nat) : Int) ∨ 7 < (listN m).length := by
    rcases Nat.lt_or_ge 7 (listN m).length with h | h
    · exact .inr h
    · refine .inl ?_
      rw [Nat.min_eq_left (by omega), Int.one_mul, two_cast]
      have : 2 ^ (listN m).length ≤ 2 ^ 7 := Nat.pow_le_pow_right (by omega) h
      exact wrG (by omega) (by omega)
  subst hR
  rw [Int.toNat_natCast, Int.toNat_natCast]
  refine ⟨d29 m hm, rfl, fun _ => ⟨fun h7 => ⟨fun _ => rfl, fun h => ?_⟩, fun h7 => ⟨rfl, fun _ => ⟨by omega, fun _ => ?_, fun h => ?_⟩, fun h => ?_⟩⟩, fun h => ?_⟩
  · rw [decide_eq_true_eq] at h7
    have : 2 ^ 8 ≤ 2 ^ (listN m).length := Nat.pow_le_pow_right (by omega) (by omega)
    rw [beq_eq_false_iff_ne] at h
    omega
  · rw [decide_eq_false_iff_not] at h7
    have : 2 ^ (listN m).length ≤ 2 ^ 7 := Nat.pow_le_pow_right (by omega) (by omega)
    have e : l = m := by
      rw [hl, show k - 1 = 2 ^ (listN m).length - 1 by omega]
      exact subN_top hm
    rw [e]
    show (D.v (.bool ((m : Int) == (m : Int))), _, _) = _
    rw [beq_self_eq_true]
  · rw [decide_eq_false_iff_not] at h7
    have : 2 ^ (listN m).length ≤ 2 ^ 7 := Nat.pow_le_pow_right (by omega) (by omega)
    rcases h2 with h2 | h2
    · rw [h2, beq_eq_false_iff_ne] at h
      omega
    · omega
  · rw [decide_eq_false_iff_not] at h h7
    omega
  · rw [beq_eq_false_iff_ne] at h
    omega

/-- Behind the range. -/
theorem z5 (m : Nat) (hm : m < W64) (W : List Int) (hW : W = subsL m 130) (k l : Nat) (hk : k = W.length) (hl : l = subN m (k - 1)) : GetsK Tryd.prog Tryd.f5.results.toList [none] (KX m5) 0 (.v (.bool true), [], []) 300 (stOf 76 [1,2,3,4,5,13] [.ptr 0 0 0, .ptr 1 0 0, .ptr 2 0 0, .ptr 3 0 0, .ptr 4 0 0, .fn 75 [.rptr [u64 m]]] [.live (.box 22 [u64 m]), .live (.box 4 [.v (.bool false)]), .live (.box 33 [.own 5 0 (List.length (α := Int) W) none]), .live (.box 3 [.v (.int .i64 (k : Int))]), .live (.box 22 [.v (.int .u64 (l : Int))]), .live (.data 22 (.int .u64) W)]) ∧ GetsK Tryd.prog Tryd.f5.results.toList [none] (KX m5) 0 (.v (.bool true), [], []) 600 (stOf 76 [1,2,3,4,5,13] [.ptr 0 0 0, .ptr 1 0 0, .ptr 2 0 0, .ptr 3 0 0, .ptr 4 0 0, .fn 75 [.rptr [u64 m]]] [.live (.box 22 [u64 m]), .live (.box 4 [.v (.bool false)]), .live (.box 33 [.own 5 0 (List.length (α := Int) W) none]), .live (.box 3 [.v (.int .i64 (k : Int))]), .live (.box 22 [.v (.int .u64 (l : Int))]), .live (.data 22 (.int .u64) W)]) := by
  have hlen := subsL_len m
  rw [← hW, ← hk] at hlen
  have hp := pow_pos2 (listN m).length
  constructor
  · refine gets_vc spS (fun _ => []) (fun _ => []) 400 (.fork (.fork (.fork .stop (.fork (.fork .stop .stop) (.f .stop))) (.f (.fork (.fork .stop .stop) (.f .stop)))) .stop) (V := fun G R => Con Tryd.prog 29 [] [D.v (Value.int IntKind.u64 (↑m : Int))] (D.v (Value.int IntKind.i64 (↑(listN (↑m : Int).toNat).length : Int))) [] [] ∧ Value.int IntKind.u64 (↑m : Int) = Value.int IntKind.u64 (↑m : Int) ∧ (((↑k : Int) == (↑W.length : Int)) = true → (decide ((↑(listN (↑m : Int).toNat).length : Int) > (7 : Int)) = true → (((↑k : Int) == (130 : Int)) = true → R (D.v (Value.bool true), [], [])) ∧ (((↑k : Int) == (130 : Int)) = false → (decide ((↑(listN (↑m : Int).toNat).length : Int) ≤ (7 : Int)) = true → ¬(↑(listN (↑m : Int).toNat).length : Int) < (0 : Int) ∧ (((↑k : Int) == IntKind.i64.wrap ((1 : Int) * (2 : Int) ^ min (↑(listN (↑m : Int).toNat).length : Int).toNat 64)) = true → R (D.v (Value.bool ((↑l : Int) == (↑m : Int))), [], [])) ∧ (((↑k : Int) == IntKind.i64.wrap ((1 : Int) * (2 : Int) ^ min (↑(listN (↑m : Int).toNat).length : Int).toNat 64)) = false → R (D.v (Value.bool false), [], []))) ∧ (decide ((↑(listN (↑m : Int).toNat).length : Int) ≤ (7 : Int)) = false → false = false ∧ R (D.v (Value.bool false), [], [])))) ∧ (decide ((↑(listN (↑m : Int).toNat).length : Int) > (7 : Int)) = false → false = false ∧ (decide ((↑(listN (↑m : Int).toNat).length : Int) ≤ (7 : Int)) = true → ¬(↑(listN (↑m : Int).toNat).length : Int) < (0 : Int) ∧ (((↑k : Int) == IntKind.i64.wrap ((1 : Int) * (2 : Int) ^ min (↑(listN (↑m : Int).toNat).length : Int).toNat 64)) = true → R (D.v (Value.bool ((↑l : Int) == (↑m : Int))), [], [])) ∧ (((↑k : Int) == IntKind.i64.wrap ((1 : Int) * (2 : Int) ^ min (↑(listN (↑m : Int).toNat).length : Int).toNat 64)) = false → R (D.v (Value.bool false), [], []))) ∧ (decide ((↑(listN (↑m : Int).toNat).length : Int) ≤ (7 : Int)) = false → false = false ∧ R (D.v (Value.bool false), [], [])))) ∧ (((↑k : Int) == (↑W.length : Int)) = false → R (D.v (Value.bool false), [], []))) hmG (fun G R => by kernel_rfl) ?_
    exact z5f m hm W hW k l hk hl _ rfl
  · refine gets_vc spS (fun _ => []) (fun _ => []) 400 (.fork (.fork (.fork .stop (.fork (.fork .stop .stop) (.f .stop))) (.f (.fork (.fork .stop .stop) (.f .stop)))) .stop) (V := fun G R => Con Tryd.prog 29 [] [D.v (Value.int IntKind.u64 (↑m : Int))] (D.v (Value.int IntKind.i64 (↑(listN (↑m : Int).toNat).length : Int))) [] [] ∧ Value.int IntKind.u64 (↑m : Int) = Value.int IntKind.u64 (↑m : Int) ∧ (((↑k : Int) == (↑W.length : Int)) = true → (decide ((↑(listN (↑m : Int).toNat).length : Int) > (7 : Int)) = true → (((↑k : Int) == (130 : Int)) = true → R (D.v (Value.bool true), [], [])) ∧ (((↑k : Int) == (130 : Int)) = false → (decide ((↑(listN (↑m : Int).toNat).length : Int) ≤ (7 : Int)) = true → ¬(↑(listN (↑m : Int).toNat).length : Int) < (0 : Int) ∧ (((↑k : Int) == IntKind.i64.wrap ((1 : Int) * (2 : Int) ^ min (↑(listN (↑m : Int).toNat).length : Int).toNat 64)) = true → R (D.v (Value.bool ((↑l : Int) == (↑m : Int))), [], [])) ∧ (((↑k : Int) == IntKind.i64.wrap ((1 : Int) * (2 : Int) ^ min (↑(listN (↑m : Int).toNat).length : Int).toNat 64)) = false → R (D.v (Value.bool false), [], []))) ∧ (decide ((↑(listN (↑m : Int).toNat).length : Int) ≤ (7 : Int)) = false → false = false ∧ R (D.v (Value.bool false), [], [])))) ∧ (decide ((↑(listN (↑m : Int).toNat).length : Int) > (7 : Int)) = false → false = false ∧ (decide ((↑(listN (↑m : Int).toNat).length : Int) ≤ (7 : Int)) = true → ¬(↑(listN (↑m : Int).toNat).length : Int) < (0 : Int) ∧ (((↑k : Int) == IntKind.i64.wrap ((1 : Int) * (2 : Int) ^ min (↑(listN (↑m : Int).toNat).length : Int).toNat 64)) = true → R (D.v (Value.bool ((↑l : Int) == (↑m : Int))), [], [])) ∧ (((↑k : Int) == IntKind.i64.wrap ((1 : Int) * (2 : Int) ^ min (↑(listN (↑m : Int).toNat).length : Int).toNat 64)) = false → R (D.v (Value.bool false), [], []))) ∧ (decide ((↑(listN (↑m : Int).toNat).length : Int) ≤ (7 : Int)) = false → false = false ∧ R (D.v (Value.bool false), [], [])))) ∧ (((↑k : Int) == (↑W.length : Int)) = false → R (D.v (Value.bool false), [], []))) hmG (fun G R => by kernel_rfl) ?_
    exact z5f m hm W hW k l hk hl _ rfl

/-- The range. -/
theorem y5 (m : Nat) (hm : m < W64) (W : List Int) (hW : W = subsL m 130) : ∀ (zs : List Nat) (k l : Nat), k < 130 → k ≤ 2 ^ (listN m).length → (0 < k → l = subN m (k - 1)) → zs = (subs m).drop k → RndsK Tryd.prog m5 Tryd.f5.results.toList [none] 0 (.v (.bool true), [], []) 0 (valsU zs) (stOf 76 [1,2,3,4,5,13] [.ptr 0 0 0, .ptr 1 0 0, .ptr 2 0 0, .ptr 3 0 0, .ptr 4 0 0, .fn 75 [.rptr [u64 m]]] [.live (.box 22 [u64 m]), .live (.box 4 [.v (.bool false)]), .live (.box 33 [.own 5 0 (List.length (α := Int) W) none]), .live (.box 3 [.v (.int .i64 (k : Int))]), .live (.box 22 [.v (.int .u64 (l : Int))]), .live (.data 22 (.int .u64) W)]) := by
  intro zs
  induction zs with
  | nil =>
    intro k l hk hkN hl h
    have h1 : 2 ^ (listN m).length ≤ k := by
      have := List.drop_eq_nil_iff.1 h.symm
      unfold subs at this
      simpa using this
    have hp := pow_pos2 (listN m).length
    have hlen := subsL_len m
    exact rndsK_nil (by decide) (z5 m hm W hW k l (by rw [hW, hlen]; omega) (hl (by omega))).1
  | cons z zs ih =>
    intro k l hk hkN hl h
    have hlt : k < (subs m).length := by
      rcases Nat.lt_or_ge k (subs m).length with h1 | h1
      · exact h1
      · rw [List.drop_eq_nil_of_le h1] at h
        cases h
    rw [List.drop_eq_getElem_cons hlt] at h
    obtain ⟨hz, hzs⟩ := List.cons.inj h
    have hz : z = subN m k := by
      have h2 : (subs m)[k]? = some (subN m k) := by
        have h3 : k < 2 ^ (listN m).length := by
          unfold subs at hlt
          simpa using hlt
        unfold subs
        rw [List.getElem?_map, List.getElem?_range h3]
        rfl
      rw [List.getElem?_eq_getElem hlt] at h2
      rw [hz]
      exact Option.some.inj h2
    have hN : k < 2 ^ (listN m).length := by
      unfold subs at hlt
      simpa using hlt
    have hlen := subsL_len m
    rw [← hW] at hlen
    have hWk : W.getD k 0 = (z : Int) := by
      rw [getI_eq (by omega), hz]
      subst hW
      unfold subsL
      simp
    refine rndsK_cons spS [1,2,3,4,5,6] (fun _ => [1,2,3,4,5,13]) (fun _ => []) 400 (.fork (.t (.t (.t .stop))) (.fork (.t (.t .stop)) (.fork (.t .stop) (.fork (.fork .stop (.fork .stop .stop)) (.f (.fork .stop .stop)))))) (V := fun GN GJ => SameK [Item.beginRound, Item.code (rfB (FF m5 0))] [Item.beginRound, Item.code (rfB (FF m5 0))] ∧ (decide ((↑k : Int) ≥ (↑W.length : Int)) = true → true = true ∧ true = true ∧ true = true ∧ W.length = W.length ∧ GJ Code.ret (stOf 76 [1, 2, 3, 4, 5, 13] [D.ptr 0 0 0, D.ptr 1 0 0, D.ptr 2 0 0, D.ptr 3 0 0, D.ptr 4 0 0, D.fn 75 [D.rptr [D.v (Value.int IntKind.u64 (↑m : Int))]]] [Slot.live (Row.box 22 [D.v (Value.int IntKind.u64 (↑m : Int))]), Slot.live (Row.box 4 [D.v (Value.bool false)]), Slot.live (Row.box 33 [D.own 5 0 W.length none]), Slot.live (Row.box 3 [D.v (Value.int IntKind.i64 (↑k : Int))]), Slot.live (Row.box 22 [D.v (Value.int IntKind.u64 (↑l : Int))]), Slot.live (Row.data 22 (Ty.int IntKind.u64) W)])) ∧ (decide ((↑k : Int) ≥ (↑W.length : Int)) = false → (0 : Int) ≤ (↑k : Int) ∧ (↑k : Int) < (↑W.length : Int) ∧ 0 + (↑k : Int).toNat < W.length ∧ (((↑z : Int) != W.getD (0 + (↑k : Int).toNat) (Ty.int IntKind.u64).dflt) = true → true = true ∧ true = true ∧ W.length = W.length ∧ GJ Code.ret (stOf 76 [1, 2, 3, 4, 5, 13] [D.ptr 0 0 0, D.ptr 1 0 0, D.ptr 2 0 0, D.ptr 3 0 0, D.ptr 4 0 0, D.fn 75 [D.rptr [D.v (Value.int IntKind.u64 (↑m : Int))]]] [Slot.live (Row.box 22 [D.v (Value.int IntKind.u64 (↑m : Int))]), Slot.live (Row.box 4 [D.v (Value.bool false)]), Slot.live (Row.box 33 [D.own 5 0 W.length none]), Slot.live (Row.box 3 [D.v (Value.int IntKind.i64 (↑k : Int))]), Slot.live (Row.box 22 [D.v (Value.int IntKind.u64 (↑l : Int))]), Slot.live (Row.data 22 (Ty.int IntKind.u64) W)])) ∧ (((↑z : Int) != W.getD (0 + (↑k : Int).toNat) (Ty.int IntKind.u64).dflt) = false → ((IntKind.u64.wrap (↑(BitVec.ofInt 64 (↑z : Int) &&& ~~~BitVec.ofInt 64 (↑m : Int)).toNat : Int) != (0 : Int)) = true → true = true ∧ W.length = W.length ∧ GJ Code.ret (stOf 76 [1, 2, 3, 4, 5, 13] [D.ptr 0 0 0, D.ptr 1 0 0, D.ptr 2 0 0, D.ptr 3 0 0, D.ptr 4 0 0, D.fn 75 [D.rptr [D.v (Value.int IntKind.u64 (↑m : Int))]]] [Slot.live (Row.box 22 [D.v (Value.int IntKind.u64 (↑m : Int))]), Slot.live (Row.box 4 [D.v (Value.bool false)]), Slot.live (Row.box 33 [D.own 5 0 W.length none]), Slot.live (Row.box 3 [D.v (Value.int IntKind.i64 (↑k : Int))]), Slot.live (Row.box 22 [D.v (Value.int IntKind.u64 (↑l : Int))]), Slot.live (Row.data 22 (Ty.int IntKind.u64) W)])) ∧ ((IntKind.u64.wrap (↑(BitVec.ofInt 64 (↑z : Int) &&& ~~~BitVec.ofInt 64 (↑m : Int)).toNat : Int) != (0 : Int)) = false → (decide ((↑k : Int) > (0 : Int)) = true → (decide ((↑z : Int) ≤ (↑l : Int)) = true → W.length = W.length ∧ GJ Code.ret (stOf 76 [1, 2, 3, 4, 5, 13] [D.ptr 0 0 0, D.ptr 1 0 0, D.ptr 2 0 0, D.ptr 3 0 0, D.ptr 4 0 0, D.fn 75 [D.rptr [D.v (Value.int IntKind.u64 (↑m : Int))]]] [Slot.live (Row.box 22 [D.v (Value.int IntKind.u64 (↑m : Int))]), Slot.live (Row.box 4 [D.v (Value.bool false)]), Slot.live (Row.box 33 [D.own 5 0 W.length none]), Slot.live (Row.box 3 [D.v (Value.int IntKind.i64 (↑k : Int))]), Slot.live (Row.box 22 [D.v (Value.int IntKind.u64 (↑l : Int))]), Slot.live (Row.data 22 (Ty.int IntKind.u64) W)])) ∧ (decide ((↑z : Int) ≤ (↑l : Int)) = false → ((IntKind.i64.wrap ((↑k : Int) + (1 : Int)) == (130 : Int)) = true → W.length = W.length ∧ GJ (Code.exit 0) (stOf 76 [1, 2, 3, 4, 5, 13] [D.ptr 0 0 0, D.ptr 1 0 0, D.ptr 2 0 0, D.ptr 3 0 0, D.ptr 4 0 0, D.fn 75 [D.rptr [D.v (Value.int IntKind.u64 (↑m : Int))]]] [Slot.live (Row.box 22 [D.v (Value.int IntKind.u64 (↑m : Int))]), Slot.live (Row.box 4 [D.v (Value.bool false)]), Slot.live (Row.box 33 [D.own 5 0 W.length none]), Slot.live (Row.box 3 [D.v (Value.int IntKind.i64 (IntKind.i64.wrap ((↑k : Int) + (1 : Int))))]), Slot.live (Row.box 22 [D.v (Value.int IntKind.u64 (↑z : Int))]), Slot.live (Row.data 22 (Ty.int IntKind.u64) W)])) ∧ ((IntKind.i64.wrap ((↑k : Int) + (1 : Int)) == (130 : Int)) = false → W.length = W.length ∧ GN (stOf 76 [1, 2, 3, 4, 5, 13] [D.ptr 0 0 0, D.ptr 1 0 0, D.ptr 2 0 0, D.ptr 3 0 0, D.ptr 4 0 0, D.fn 75 [D.rptr [D.v (Value.int IntKind.u64 (↑m : Int))]]] [Slot.live (Row.box 22 [D.v (Value.int IntKind.u64 (↑m : Int))]), Slot.live (Row.box 4 [D.v (Value.bool false)]), Slot.live (Row.box 33 [D.own 5 0 W.length none]), Slot.live (Row.box 3 [D.v (Value.int IntKind.i64 (IntKind.i64.wrap ((↑k : Int) + (1 : Int))))]), Slot.live (Row.box 22 [D.v (Value.int IntKind.u64 (↑z : Int))]), Slot.live (Row.data 22 (Ty.int IntKind.u64) W)])))) ∧ (decide ((↑k : Int) > (0 : Int)) = false → false = false ∧ ((IntKind.i64.wrap ((↑k : Int) + (1 : Int)) == (130 : Int)) = true → W.length = W.length ∧ GJ (Code.exit 0) (stOf 76 [1, 2, 3, 4, 5, 13] [D.ptr 0 0 0, D.ptr 1 0 0, D.ptr 2 0 0, D.ptr 3 0 0, D.ptr 4 0 0, D.fn 75 [D.rptr [D.v (Value.int IntKind.u64 (↑m : Int))]]] [Slot.live (Row.box 22 [D.v (Value.int IntKind.u64 (↑m : Int))]), Slot.live (Row.box 4 [D.v (Value.bool false)]), Slot.live (Row.box 33 [D.own 5 0 W.length none]), Slot.live (Row.box 3 [D.v (Value.int IntKind.i64 (IntKind.i64.wrap ((↑k : Int) + (1 : Int))))]), Slot.live (Row.box 22 [D.v (Value.int IntKind.u64 (↑z : Int))]), Slot.live (Row.data 22 (Ty.int IntKind.u64) W)])) ∧ ((IntKind.i64.wrap ((↑k : Int) + (1 : Int)) == (130 : Int)) = false → W.length = W.length ∧ GN (stOf 76 [1, 2, 3, 4, 5, 13] [D.ptr 0 0 0, D.ptr 1 0 0, D.ptr 2 0 0, D.ptr 3 0 0, D.ptr 4 0 0, D.fn 75 [D.rptr [D.v (Value.int IntKind.u64 (↑m : Int))]]] [Slot.live (Row.box 22 [D.v (Value.int IntKind.u64 (↑m : Int))]), Slot.live (Row.box 4 [D.v (Value.bool false)]), Slot.live (Row.box 33 [D.own 5 0 W.length none]), Slot.live (Row.box 3 [D.v (Value.int IntKind.i64 (IntKind.i64.wrap ((↑k : Int) + (1 : Int))))]), Slot.live (Row.box 22 [D.v (Value.int IntKind.u64 (↑z : Int))]), Slot.live (Row.data 22 (Ty.int IntKind.u64) W)]))))))) hmG (by decide) (by rfl) (fun GN GJ => by kernel_rfl) ?_
    have e0 : (Ty.int IntKind.u64).dflt = (0 : Int) := rfl
    have hin : z &&& m = z := by rw [hz]; exact subN_in hm
    rw [Nat.zero_add, Int.toNat_natCast, e0, hWk, andNot0 hin, wrG (n := (k : Int) + 1) (by omega) (by omega)]
    refine ⟨SameK.same _, fun h1 => ?_, fun _ => ⟨by omega, by omega, by omega, fun h1 => ?_, fun _ => ⟨fun h1 => ?_, fun _ => ⟨fun hk0 => ⟨fun h1 => ?_, fun _ => ⟨fun h1 => ⟨rfl, by decide, ?_⟩, fun h1 => ⟨rfl, ?_⟩⟩⟩, fun hk0 => ⟨rfl, fun h1 => ⟨rfl, by decide, ?_⟩, fun h1 => ⟨rfl, ?_⟩⟩⟩⟩⟩⟩
    · rw [decide_eq_true_eq] at h1
      omega
    · simp at h1
    · have h2 : ((IntKind.u64.wrap ((0 : Nat) : Int) != 0) = true) → False := by decide
      exact (h2 h1).elim
    · rw [decide_eq_true_eq] at h1 hk0
      have := hl (by omega)
      have := subN_mono (m := m) (k := k - 1) (k' := k) (by omega) hN
      omega
    · rw [beq_iff_eq] at h1
      exact (z5 m hm W hW (k + 1) z (by omega) hz).2
    · rw [beq_eq_false_iff_ne] at h1
      exact ih (k + 1) z (by omega) (by omega) (fun _ => hz) hzs
    · rw [beq_iff_eq] at h1
      exact (z5 m hm W hW (k + 1) z (by omega) hz).2
    · rw [beq_eq_false_iff_ne] at h1
      exact ih (k + 1) z (by omega) (by omega) (fun _ => hz) hzs

theorem d5 (m : Nat) (hm : m < W64) : Con Tryd.prog 5 [] [u64 m] ((.v (.bool true))) [] [] := by
  refine con_vc (how := [none]) (c := m5) (K := (KX m5)) spS (fun k => [1,2,3,4,5,13]) (fun _ => []) 400 (.fork .stop (.cut 100)) (V := fun G R => Con Tryd.prog 20 [] [] (D.v (Value.bool true)) [] [] ∧ ((!true) = true → R (D.v (Value.bool false), [], [])) ∧ ((!true) = false → Con Tryd.prog 27 [] [D.v (Value.int IntKind.u64 (↑m : Int)), D.v (Value.int IntKind.i64 (130 : Int))] (D.own 0 0 (subsL (↑m : Int).toNat (130 : Int)).length none) [] [Row.data 22 (Ty.int IntKind.u64) (subsL (↑m : Int).toNat (130 : Int))] ∧ Value.int IntKind.u64 (↑m : Int) = Value.int IntKind.u64 (↑m : Int) ∧ Value.int IntKind.i64 (130 : Int) = Value.int IntKind.i64 (130 : Int) ∧ Con Tryd.prog 28 [] [D.v (Value.int IntKind.u64 (↑m : Int))] (D.fn 75 [D.rptr [D.v (Value.int IntKind.u64 (↑m : Int))]]) [] [] ∧ Value.int IntKind.u64 (↑m : Int) = Value.int IntKind.u64 (↑m : Int) ∧ SameK (KX m5 100) (KX m5 100) ∧ G 100 (stOf 76 [1, 2, 3, 4, 5, 13] [D.ptr 0 0 0, D.ptr 1 0 0, D.ptr 2 0 0, D.ptr 3 0 0, D.ptr 4 0 0, D.fn 75 [D.rptr [D.v (Value.int IntKind.u64 (↑m : Int))]]] [Slot.live (Row.box 22 [D.v (Value.int IntKind.u64 (↑m : Int))]), Slot.live (Row.box 4 [D.v (Value.bool false)]), Slot.live (Row.box 33 [D.own 5 0 (subsL (↑m : Int).toNat (130 : Int)).length none]), Slot.live (Row.box 3 [D.v (Value.int IntKind.i64 (0 : Int))]), Slot.live (Row.box 22 [D.v (Value.int IntKind.u64 (0 : Int))]), Slot.live (Row.data 22 (Ty.int IntKind.u64) (subsL (↑m : Int).toNat (130 : Int)))]))) hmG Tryd.func5 (by kernel_rfl) (by kernel_rfl) (fun G R => by kernel_rfl) ?_
  try dsimp only
  refine ⟨d20, fun h => (by cases h), fun _ => ⟨d27 m 130 hm (by decide) (by decide), rfl, rfl, d28 m, rfl, SameK.same _, ?_⟩⟩
  exact getsK_range (i := 0) (by decide) rfl rfl ⟨rfl, rfl⟩ (it75 m hm) (y5 m hm (subsL m 130) rfl (subs m) 0 0 (by decide) (Nat.zero_le _) (fun h => by omega) rfl)

theorem law5 (m : Int) (h2 : wfS (.int .u64) m) : Con Tryd.prog 5 [] [.v (.int .u64 m)] (.v (.bool true)) [] [] := by
  have h3 : 0 ≤ m ∧ m ≤ 18446744073709551615 := h2
  have e : m = (m.toNat : Int) := by omega
  rw [e]
  refine d5 m.toNat ?_
  show m.toNat < 18446744073709551616
  omega


end Go.Proofs.YtnakmganodkliaaDoorAm
