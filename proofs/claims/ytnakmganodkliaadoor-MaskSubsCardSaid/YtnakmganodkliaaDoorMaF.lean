/- Sets of numbers: the sequence of the subsets. -/
import Derived.Test.YtnakmganodkliaaDoorMaD
import Derived.Test.YtnakmganodkliaaDoorMaF0
set_option linter.unusedVariables false
set_option linter.unusedSimpArgs false
set_option maxRecDepth 100000
namespace Go.Proofs.YtnakmganodkliaaDoorAm
open Go

theorem it75 (m : Nat) (hm : m < W64) : IterP Tryd.prog 75 [.rptr [u64 m]] (valsU (subs m)) := by
  refine iter_of Tryd.func75 (by kernel_rfl) (c := m75) (by kernel_rfl) (by kernel_rfl) ?_
  intro l J Jx hJU hJg hJxg hY
  have hlen : (valsU (subs m)).length = 2 ^ (listN m).length := by unfold valsU subs; simp
  rw [hlen]
  generalize hN : 2 ^ (listN m).length = N
  have hN1 : 1 ≤ N := by rw [← hN]; exact pow_pos2 _
  have hval : ∀ (i r : Nat), i < N → r = subN m i → (valsU (subs m))[i]? = some [.int .u64 (r : Int)] := by
    intro i r hi hr
    unfold valsU subs
    rw [List.getElem?_map, List.getElem?_map, List.getElem?_range (by omega), hr]
    rfl
  have loop : ∀ (n i r : Nat), i < N → i + n + 1 = N → r = subN m i → Goes Tryd.prog (itGoal Tryd.prog J Jx N i) 0 (KX m75 0) (stOf 17 [0,1,3] [.v (.func (.yield l) #[] #[]), .rptr [u64 m], .v (.int .u64 (r : Int))] []) := by
    intro n
    induction n with
    | zero =>
      intro i r hi hn hr
      refine it_vc (K := (KX m75)) spS (fun k => [0,1,3]) (fun _ => []) 400 (.cut 201) (V := fun G E => SameK (KX m75 201) (KX m75 201) ∧ G 201 (stOf 17 [0, 1, 3] [D.v (Value.func (Fn.yield l) (Array.mk []) (Array.mk [])), D.rptr [D.v (Value.int IntKind.u64 (↑m : Int))], D.v (Value.int IntKind.u64 (↑r : Int))] [])) hmG (hJg) (fun G E => by kernel_rfl) ?_
      refine ⟨SameK.same _, ?_⟩
      show Goes Tryd.prog (itGoal Tryd.prog J Jx N i) 0 (RR m75 1) _
      have hxt := hval i r hi hr
      refine it_round_vc spS (fun k => [0,1,3]) (fun _ => []) 400 2 (.fork (.hd 0) .stop) (.f .stop) (V := fun G E G' E' => D.v (Value.func (Fn.yield l) (Array.mk []) (Array.mk [])) = D.v (Value.func (Fn.yield l) (Array.mk []) (Array.mk [])) ∧ [D.v (Value.int IntKind.u64 (↑r : Int))] = [D.v (Value.int IntKind.u64 (↑r : Int))] ∧ ((((↑r : Int) != (↑m : Int)) = true → SameK (KX m75 0) (KX m75 0) ∧ G 0 (stOf 17 [0, 1, 3] [D.v (Value.func (Fn.yield l) (Array.mk []) (Array.mk [])), D.rptr [D.v (Value.int IntKind.u64 (↑m : Int))], D.v (Value.int IntKind.u64 (IntKind.u64.wrap (↑(BitVec.ofInt 64 (IntKind.u64.wrap ((↑r : Int) - (↑m : Int))) &&& BitVec.ofInt 64 (↑m : Int)).toNat : Int)))] [])) ∧ (((↑r : Int) != (↑m : Int)) = false → E none (St.mk [D.v (Value.func (Fn.yield l) (Array.mk []) (Array.mk [])), D.rptr [D.v (Value.int IntKind.u64 (↑m : Int))], D.top, D.v (Value.int IntKind.u64 (↑r : Int)), D.v (Value.func (Fn.yield l) (Array.mk []) (Array.mk [])), D.v (Value.int IntKind.u64 (↑r : Int)), D.v (Value.bool true), D.v (Value.bool true), D.v (Value.int IntKind.u64 (↑r : Int)), D.v (Value.int IntKind.u64 (↑m : Int)), D.v (Value.bool ((↑r : Int) != (↑m : Int))), D.v (Value.bool ((↑r : Int) != (↑m : Int))), D.top, D.top, D.top, D.top, D.top] [Slot.free, Slot.free, Slot.free, Slot.free]))) ∧ false = false ∧ E' none (St.mk [D.v (Value.func (Fn.yield l) (Array.mk []) (Array.mk [])), D.rptr [D.v (Value.int IntKind.u64 (↑m : Int))], D.top, D.v (Value.int IntKind.u64 (↑r : Int)), D.v (Value.func (Fn.yield l) (Array.mk []) (Array.mk [])), D.v (Value.int IntKind.u64 (↑r : Int)), D.v (Value.bool false), D.v (Value.bool false), D.v (Value.tuple (Array.mk [])), D.v (Value.tuple (Array.mk [])), D.v (Value.tuple (Array.mk [])), D.v (Value.bool false), D.top, D.top, D.top, D.top, D.top] [Slot.free, Slot.free, Slot.free, Slot.free])) hmG hJU hJg hJxg hY hxt ⟨1, by kernel_rfl⟩ (fun G E G' E' => by kernel_rfl) ?_
      have hrm : r = m := by
        rw [hr, show i = N - 1 by omega, ← hN]
        exact subN_top hm
      refine ⟨rfl, rfl, ⟨fun h => ?_, fun _ => (by show i + 1 = N; omega)⟩, rfl, trivial⟩
      rw [hrm] at h
      simp at h
    | succ n ih =>
      intro i r hi hn hr
      refine it_vc (K := (KX m75)) spS (fun k => [0,1,3]) (fun _ => []) 400 (.cut 201) (V := fun G E => SameK (KX m75 201) (KX m75 201) ∧ G 201 (stOf 17 [0, 1, 3] [D.v (Value.func (Fn.yield l) (Array.mk []) (Array.mk [])), D.rptr [D.v (Value.int IntKind.u64 (↑m : Int))], D.v (Value.int IntKind.u64 (↑r : Int))] [])) hmG (hJg) (fun G E => by kernel_rfl) ?_
      refine ⟨SameK.same _, ?_⟩
      show Goes Tryd.prog (itGoal Tryd.prog J Jx N i) 0 (RR m75 1) _
      have hxt := hval i r hi hr
      refine it_round_vc spS (fun k => [0,1,3]) (fun _ => []) 400 2 (.fork (.hd 0) .stop) (.f .stop) (V := fun G E G' E' => D.v (Value.func (Fn.yield l) (Array.mk []) (Array.mk [])) = D.v (Value.func (Fn.yield l) (Array.mk []) (Array.mk [])) ∧ [D.v (Value.int IntKind.u64 (↑r : Int))] = [D.v (Value.int IntKind.u64 (↑r : Int))] ∧ ((((↑r : Int) != (↑m : Int)) = true → SameK (KX m75 0) (KX m75 0) ∧ G 0 (stOf 17 [0, 1, 3] [D.v (Value.func (Fn.yield l) (Array.mk []) (Array.mk [])), D.rptr [D.v (Value.int IntKind.u64 (↑m : Int))], D.v (Value.int IntKind.u64 (IntKind.u64.wrap (↑(BitVec.ofInt 64 (IntKind.u64.wrap ((↑r : Int) - (↑m : Int))) &&& BitVec.ofInt 64 (↑m : Int)).toNat : Int)))] [])) ∧ (((↑r : Int) != (↑m : Int)) = false → E none (St.mk [D.v (Value.func (Fn.yield l) (Array.mk []) (Array.mk [])), D.rptr [D.v (Value.int IntKind.u64 (↑m : Int))], D.top, D.v (Value.int IntKind.u64 (↑r : Int)), D.v (Value.func (Fn.yield l) (Array.mk []) (Array.mk [])), D.v (Value.int IntKind.u64 (↑r : Int)), D.v (Value.bool true), D.v (Value.bool true), D.v (Value.int IntKind.u64 (↑r : Int)), D.v (Value.int IntKind.u64 (↑m : Int)), D.v (Value.bool ((↑r : Int) != (↑m : Int))), D.v (Value.bool ((↑r : Int) != (↑m : Int))), D.top, D.top, D.top, D.top, D.top] [Slot.free, Slot.free, Slot.free, Slot.free]))) ∧ false = false ∧ E' none (St.mk [D.v (Value.func (Fn.yield l) (Array.mk []) (Array.mk [])), D.rptr [D.v (Value.int IntKind.u64 (↑m : Int))], D.top, D.v (Value.int IntKind.u64 (↑r : Int)), D.v (Value.func (Fn.yield l) (Array.mk []) (Array.mk [])), D.v (Value.int IntKind.u64 (↑r : Int)), D.v (Value.bool false), D.v (Value.bool false), D.v (Value.tuple (Array.mk [])), D.v (Value.tuple (Array.mk [])), D.v (Value.tuple (Array.mk [])), D.v (Value.bool false), D.top, D.top, D.top, D.top, D.top] [Slot.free, Slot.free, Slot.free, Slot.free])) hmG hJU hJg hJxg hY hxt ⟨1, by kernel_rfl⟩ (fun G E G' E' => by kernel_rfl) ?_
      have hlt : r < m := by
        have h1 : subN m (N - 1) = m := by rw [← hN]; exact subN_top hm
        rw [hr]
        have := subN_mono (m := m) (k := i) (k' := N - 1) (by omega) (by omega)
        omega
      have hm' : m < 18446744073709551616 := hm
      have w1 : IntKind.u64.wrap ((r : Int) - (m : Int)) = ((r + W64 - m : Nat) : Int) := by
        rw [wrap_mod]
        have : W64 = 18446744073709551616 := rfl
        omega
      have w2 : r + W64 - m < W64 := by omega
      have hnx := subN_next hm (k := i) (by omega)
      rw [← hr] at hnx
      rw [w1, andU w2 hm, wrU' (and_lt w2), hnx]
      refine ⟨rfl, rfl, ⟨fun _ => ⟨SameK.same _, ih (i + 1) _ (by omega) (by omega) rfl⟩, fun h => ?_⟩, rfl, trivial⟩
      have : (r : Int) = (m : Int) := by simpa using h
      omega
  refine it_vc (K := (KX m75)) spS (fun k => [0,1,3]) (fun _ => []) 400 (.hd 0) (V := fun G E => SameK (KX m75 0) (KX m75 0) ∧ G 0 (stOf 17 [0, 1, 3] [D.v (Value.func (Fn.yield l) (Array.mk []) (Array.mk [])), D.rptr [D.v (Value.int IntKind.u64 (↑m : Int))], D.v (Value.int IntKind.u64 (0 : Int))] [])) hmG (hJg) (fun G E => by kernel_rfl) ?_
  exact ⟨SameK.same _, loop (N - 1) 0 0 (by omega) (by omega) (subN_zero m).symm⟩

theorem d28r (m : Nat)  : Con Tryd.prog 28 [] [u64 m] ((.fn 75 [.ptr 0 0 0])) [] [.box 22 [u64 m]] := by
  refine con_vc (how := [none]) (c := m28) (K := (KK m28)) spS (fun _ => []) (fun _ => []) 400 .stop (V := fun G R => R (D.fn 75 [D.ptr 0 0 0], [], [Row.box 22 [D.v (Value.int IntKind.u64 (↑m : Int))]])) hmG Tryd.func28 (by kernel_rfl) (by kernel_rfl) (fun G R => by kernel_rfl) ?_
  try dsimp only
  rfl

theorem d28 (m : Nat) : Con Tryd.prog 28 [] [u64 m] (.fn 75 [.rptr [u64 m]]) [] [] := con_frz (cs := [.int .u64 m]) (d28r m)

theorem roomU {n : Nat} (h : n ≤ 1000000) : roomy Tryd.prog 22 n := by
  have e : Tryd.prog.bytesOf 22 = 8 := by kernel_rfl
  unfold roomy
  rw [e]
  omega

theorem b27 (m : Nat) (n : Int) (hm : m < W64) (k : Nat) (hk : k < 9223372036854775807) (ys : List Int) (hy : ys.length ≤ 1000) (hret : 0 < k / 2 ^ (listN m).length → ys = subsL m n) (hgo : k / 2 ^ (listN m).length = 0 → ∀ zs, zs = ys ++ [((subN m k : Nat) : Int)] → GetsK Tryd.prog Tryd.f27.results.toList [none] (KK m27) 0 (.own 0 0 (subsL m n).length none, [], [.data 22 (.int .u64) (subsL m n)]) 0 (stOf 45 [1,5,6,7] [.v (.int .i64 n), .own 0 0 (listN m).length none, .own 1 0 (List.length (α := Int) zs) none, .v (.int .i64 ((k + 1 : Nat) : Int))] [.live (.data 3 (.int .i64) (listN m)), .live (.data 22 (.int .u64) zs)])) (z : Nat) :
    ∀ (i s r : Nat), i + z = (listN m).length → r = k / 2 ^ i → s + depL ((listN m).drop i) r = subN m k → GetsK Tryd.prog Tryd.f27.results.toList [none] (KK m27) 0 (.own 0 0 (subsL m n).length none, [], [.data 22 (.int .u64) (subsL m n)]) 1 (stOf 45 [1,5,6,7,8,9,10] [.v (.int .i64 n), .own 0 0 (listN m).length none, .own 1 0 (List.length (α := Int) ys) none, .v (.int .i64 (k : Int)), .v (.int .u64 (s : Int)), .v (.int .i64 (r : Int)), .v (.int .i64 (i : Int))] [.live (.data 3 (.int .i64) (listN m)), .live (.data 22 (.int .u64) ys)]) := by
  induction z with
  | zero =>
    intro i s r hi hr hs
    refine gets_vc spS (fun k => if k = 0 then [1,5,6,7] else [1,5,6,7,8,9,10]) (fun k => [⟨6, 22, .int .u64⟩]) 400 (.fork (.fork (.hd 1) (.hd 1)) (.fork .stop (.hd 0))) (V := fun G R => (decide ((↑i : Int) < (↑(listN m).length : Int)) = true → (2 : Int) ≠ (0 : Int) ∧ (((↑r : Int).tmod (2 : Int) == (1 : Int)) = true → (0 : Int) ≤ (↑i : Int) ∧ (↑i : Int) < (↑(listN m).length : Int) ∧ 0 + (↑i : Int).toNat < (listN m).length ∧ Con Tryd.prog 74 [] [D.v (Value.int IntKind.i64 ((listN m).getD (0 + (↑i : Int).toNat) (Ty.int IntKind.i64).dflt))] (D.v (Value.int IntKind.u64 (↑(bitN ((listN m).getD (0 + (↑i : Int).toNat) (Ty.int IntKind.i64).dflt)) : Int))) [] [] ∧ Value.int IntKind.i64 ((listN m).getD (0 + (↑i : Int).toNat) (Ty.int IntKind.i64).dflt) = Value.int IntKind.i64 ((listN m).getD (0 + (↑i : Int).toNat) (Ty.int IntKind.i64).dflt) ∧ (2 : Int) ≠ (0 : Int) ∧ SameK (KK m27 1) (KK m27 1) ∧ G 1 (stOf 45 [1, 5, 6, 7, 8, 9, 10] [D.v (Value.int IntKind.i64 n), D.own 0 0 (listN m).length none, D.own 1 0 ys.length none, D.v (Value.int IntKind.i64 (↑k : Int)), D.v (Value.int IntKind.u64 (IntKind.u64.wrap ((↑s : Int) + (↑(bitN ((listN m).getD (0 + (↑i : Int).toNat) (Ty.int IntKind.i64).dflt)) : Int)))), D.v (Value.int IntKind.i64 (IntKind.i64.wrap ((↑r : Int).tdiv (2 : Int)))), D.v (Value.int IntKind.i64 (IntKind.i64.wrap ((↑i : Int) + (1 : Int))))] [Slot.live (Row.data 3 (Ty.int IntKind.i64) (listN m)), Slot.live (Row.data 22 (Ty.int IntKind.u64) ys)])) ∧ (((↑r : Int).tmod (2 : Int) == (1 : Int)) = false → (2 : Int) ≠ (0 : Int) ∧ SameK (KK m27 1) (KK m27 1) ∧ G 1 (stOf 45 [1, 5, 6, 7, 8, 9, 10] [D.v (Value.int IntKind.i64 n), D.own 0 0 (listN m).length none, D.own 1 0 ys.length none, D.v (Value.int IntKind.i64 (↑k : Int)), D.v (Value.int IntKind.u64 (↑s : Int)), D.v (Value.int IntKind.i64 (IntKind.i64.wrap ((↑r : Int).tdiv (2 : Int)))), D.v (Value.int IntKind.i64 (IntKind.i64.wrap ((↑i : Int) + (1 : Int))))] [Slot.live (Row.data 3 (Ty.int IntKind.i64) (listN m)), Slot.live (Row.data 22 (Ty.int IntKind.u64) ys)]))) ∧ (decide ((↑i : Int) < (↑(listN m).length : Int)) = false → (decide ((↑r : Int) > (0 : Int)) = true → R (D.own 0 0 ys.length none, [], [Row.data 22 (Ty.int IntKind.u64) ys])) ∧ (decide ((↑r : Int) > (0 : Int)) = false → roomy Tryd.prog 22 (ys.length + 1) ∧ SameK (KK m27 0) (KK m27 0) ∧ G 0 (stOf 45 [1, 5, 6, 7] [D.v (Value.int IntKind.i64 n), D.own 0 0 (listN m).length none, D.own 1 0 (ys.length + 1) none, D.v (Value.int IntKind.i64 (IntKind.i64.wrap ((↑k : Int) + (1 : Int))))] [Slot.live (Row.data 3 (Ty.int IntKind.i64) (listN m)), Slot.live (Row.data 22 (Ty.int IntKind.u64) (List.take ys.length (List.drop 0 ys) ++ List.take 1 (List.drop 0 [(↑s : Int)])))])))) hmG (fun G R => by kernel_rfl) ?_
    have hz : (listN m).drop i = [] := List.drop_eq_nil_of_le (by omega)
    rw [hz] at hs
    have hs : s = subN m k := hs
    have hi' : i = (listN m).length := by omega
    rw [hi'] at hr
    refine ⟨fun h => ?_, fun _ => ⟨fun h => ?_, fun h => ⟨roomU (by omega), SameK.same _, ?_⟩⟩⟩
    · rw [decide_eq_true_eq] at h
      omega
    · rw [decide_eq_true_eq] at h
      have e := hret (by omega)
      subst e
      rfl
    · rw [decide_eq_false_iff_not] at h
      have := hgo (by omega) _ rfl
      rw [take_app, wrG (by omega) (by omega), hs]
      rw [List.length_append] at this
      exact this
  | succ z ih =>
    intro i s r hi hr hs
    refine gets_vc spS (fun k => if k = 0 then [1,5,6,7] else [1,5,6,7,8,9,10]) (fun k => [⟨6, 22, .int .u64⟩]) 400 (.fork (.fork (.hd 1) (.hd 1)) (.fork .stop (.hd 0))) (V := fun G R => (decide ((↑i : Int) < (↑(listN m).length : Int)) = true → (2 : Int) ≠ (0 : Int) ∧ (((↑r : Int).tmod (2 : Int) == (1 : Int)) = true → (0 : Int) ≤ (↑i : Int) ∧ (↑i : Int) < (↑(listN m).length : Int) ∧ 0 + (↑i : Int).toNat < (listN m).length ∧ Con Tryd.prog 74 [] [D.v (Value.int IntKind.i64 ((listN m).getD (0 + (↑i : Int).toNat) (Ty.int IntKind.i64).dflt))] (D.v (Value.int IntKind.u64 (↑(bitN ((listN m).getD (0 + (↑i : Int).toNat) (Ty.int IntKind.i64).dflt)) : Int))) [] [] ∧ Value.int IntKind.i64 ((listN m).getD (0 + (↑i : Int).toNat) (Ty.int IntKind.i64).dflt) = Value.int IntKind.i64 ((listN m).getD (0 + (↑i : Int).toNat) (Ty.int IntKind.i64).dflt) ∧ (2 : Int) ≠ (0 : Int) ∧ SameK (KK m27 1) (KK m27 1) ∧ G 1 (stOf 45 [1, 5, 6, 7, 8, 9, 10] [D.v (Value.int IntKind.i64 n), D.own 0 0 (listN m).length none, D.own 1 0 ys.length none, D.v (Value.int IntKind.i64 (↑k : Int)), D.v (Value.int IntKind.u64 (IntKind.u64.wrap ((↑s : Int) + (↑(bitN ((listN m).getD (0 + (↑i : Int).toNat) (Ty.int IntKind.i64).dflt)) : Int)))), D.v (Value.int IntKind.i64 (IntKind.i64.wrap ((↑r : Int).tdiv (2 : Int)))), D.v (Value.int IntKind.i64 (IntKind.i64.wrap ((↑i : Int) + (1 : Int))))] [Slot.live (Row.data 3 (Ty.int IntKind.i64) (listN m)), Slot.live (Row.data 22 (Ty.int IntKind.u64) ys)])) ∧ (((↑r : Int).tmod (2 : Int) == (1 : Int)) = false → (2 : Int) ≠ (0 : Int) ∧ SameK (KK m27 1) (KK m27 1) ∧ G 1 (stOf 45 [1, 5, 6, 7, 8, 9, 10] [D.v (Value.int IntKind.i64 n), D.own 0 0 (listN m).length none, D.own 1 0 ys.length none, D.v (Value.int IntKind.i64 (↑k : Int)), D.v (Value.int IntKind.u64 (↑s : Int)), D.v (Value.int IntKind.i64 (IntKind.i64.wrap ((↑r : Int).tdiv (2 : Int)))), D.v (Value.int IntKind.i64 (IntKind.i64.wrap ((↑i : Int) + (1 : Int))))] [Slot.live (Row.data 3 (Ty.int IntKind.i64) (listN m)), Slot.live (Row.data 22 (Ty.int IntKind.u64) ys)]))) ∧ (decide ((↑i : Int) < (↑(listN m).length : Int)) = false → (decide ((↑r : Int) > (0 : Int)) = true → R (D.own 0 0 ys.length none, [], [Row.data 22 (Ty.int IntKind.u64) ys])) ∧ (decide ((↑r : Int) > (0 : Int)) = false → roomy Tryd.prog 22 (ys.length + 1) ∧ SameK (KK m27 0) (KK m27 0) ∧ G 0 (stOf 45 [1, 5, 6, 7] [D.v (Value.int IntKind.i64 n), D.own 0 0 (listN m).length none, D.own 1 0 (ys.length + 1) none, D.v (Value.int IntKind.i64 (IntKind.i64.wrap ((↑k : Int) + (1 : Int))))] [Slot.live (Row.data 3 (Ty.int IntKind.i64) (listN m)), Slot.live (Row.data 22 (Ty.int IntKind.u64) (List.take ys.length (List.drop 0 ys) ++ List.take 1 (List.drop 0 [(↑s : Int)])))])))) hmG (fun G R => by kernel_rfl) ?_
    have hlen := list_len m
    have hi' : i < (listN m).length := by omega
    have ex : (listN m).getD i 0 = (listN m)[i] := getI_eq hi'
    have hd : (listN m).drop i = (listN m)[i] :: (listN m).drop (i + 1) := List.drop_eq_getElem_cons hi'
    have hmem : (listN m)[i] ∈ listN m := List.getElem_mem hi'
    have hx := mem_list.1 hmem
    rw [hd] at hs
    rw [Nat.zero_add, Int.toNat_natCast]
    show _ ∧ _
    have hT : subN m k < W64 := Nat.lt_of_le_of_lt (subN_le hm) hm
    have e0 : (Ty.int IntKind.i64).dflt = (0 : Int) := rfl
    rw [e0, ex]
    generalize (listN m)[i] = y at *
    have hy2 : 0 ≤ y ∧ y < 64 := by
      unfold hasN at hx
      simp only [Bool.and_eq_true, decide_eq_true_eq] at hx
      exact ⟨hx.1, hx.2.1⟩
    have hb : bitN y = 2 ^ y.toNat := by
      unfold bitN
      rw [if_neg (by omega)]
    have c := d74 y
    rw [hb] at c ⊢
    have hs : s + ((if r % 2 = 1 then 2 ^ y.toNat else 0) + depL (List.drop (i + 1) (listN m)) (r / 2)) = subN m k := hs
    have hr2 : r / 2 = k / 2 ^ (i + 1) := by rw [hr, Nat.div_div_eq_div_mul, Nat.pow_succ]
    have hrk : r ≤ k := by rw [hr]; exact Nat.div_le_self _ _
    rw [show ((r : Int)).tmod 2 = ((r % 2 : Nat) : Int) from rfl, show ((r : Int)).tdiv 2 = ((r / 2 : Nat) : Int) from rfl, wrG (n := ((r / 2 : Nat) : Int)) (by omega) (by omega), wrG (n := (i : Int) + 1) (by omega) (by omega)]
    refine ⟨fun _ => ⟨by decide, fun h => ⟨by omega, by omega, hi', c, rfl, by decide, SameK.same _, ?_⟩, fun h => ⟨by decide, SameK.same _, ?_⟩⟩, fun h => ?_⟩
    · have h1 : r % 2 = 1 := by
        have : ((r % 2 : Nat) : Int) = 1 := by simpa using h
        omega
      rw [if_pos h1] at hs
      rw [show ((s : Int) + ((2 ^ y.toNat : Nat) : Int)) = ((s + 2 ^ y.toNat : Nat) : Int) from (Int.natCast_add _ _).symm, wrU' (by omega)]
      exact ih (i + 1) _ _ (by omega) hr2 (by omega)
    · have h1 : ¬ r % 2 = 1 := by
        intro h2
        rw [h2] at h
        simp at h
      rw [if_neg h1] at hs
      exact ih (i + 1) _ _ (by omega) hr2 (by omega)
    · rw [decide_eq_false_iff_not] at h
      omega

theorem a27 (m : Nat) (n : Int) (hm : m < W64) (hn : n ≤ 1000) (z : Nat) : ∀ (k : Nat) (ys : List Int), (k : Int) + z = n → k ≤ 2 ^ (listN m).length → ys = (List.range k).map (fun k => ((subN m k : Nat) : Int)) → GetsK Tryd.prog Tryd.f27.results.toList [none] (KK m27) 0 (.own 0 0 (subsL m n).length none, [], [.data 22 (.int .u64) (subsL m n)]) 0 (stOf 45 [1,5,6,7] [.v (.int .i64 n), .own 0 0 (listN m).length none, .own 1 0 (List.length (α := Int) ys) none, .v (.int .i64 (k : Int))] [.live (.data 3 (.int .i64) (listN m)), .live (.data 22 (.int .u64) ys)]) := by
  induction z with
  | zero =>
    intro k ys hk hle hy
    refine gets_vc spS (fun k => if k = 0 then [1,5,6,7] else [1,5,6,7,8,9,10]) (fun k => [⟨6, 22, .int .u64⟩]) 400 (.fork (.hd 1) .stop) (V := fun G R => (decide ((↑k : Int) < n) = true → SameK (KK m27 1) (KK m27 1) ∧ G 1 (stOf 45 [1, 5, 6, 7, 8, 9, 10] [D.v (Value.int IntKind.i64 n), D.own 0 0 (listN m).length none, D.own 1 0 ys.length none, D.v (Value.int IntKind.i64 (↑k : Int)), D.v (Value.int IntKind.u64 (0 : Int)), D.v (Value.int IntKind.i64 (↑k : Int)), D.v (Value.int IntKind.i64 (0 : Int))] [Slot.live (Row.data 3 (Ty.int IntKind.i64) (listN m)), Slot.live (Row.data 22 (Ty.int IntKind.u64) ys)])) ∧ (decide ((↑k : Int) < n) = false → R (D.own 0 0 ys.length none, [], [Row.data 22 (Ty.int IntKind.u64) ys]))) hmG (fun G R => by kernel_rfl) ?_
    refine ⟨fun h => ?_, fun _ => ?_⟩
    · rw [decide_eq_true_eq] at h
      omega
    · have e : subsL m n = ys := by
        unfold subsL
        rw [hy, show min n.toNat (2 ^ (listN m).length) = k by omega]
      rw [e]
  | succ z ih =>
    intro k ys hk hle hy
    refine gets_vc spS (fun k => if k = 0 then [1,5,6,7] else [1,5,6,7,8,9,10]) (fun k => [⟨6, 22, .int .u64⟩]) 400 (.fork (.hd 1) .stop) (V := fun G R => (decide ((↑k : Int) < n) = true → SameK (KK m27 1) (KK m27 1) ∧ G 1 (stOf 45 [1, 5, 6, 7, 8, 9, 10] [D.v (Value.int IntKind.i64 n), D.own 0 0 (listN m).length none, D.own 1 0 ys.length none, D.v (Value.int IntKind.i64 (↑k : Int)), D.v (Value.int IntKind.u64 (0 : Int)), D.v (Value.int IntKind.i64 (↑k : Int)), D.v (Value.int IntKind.i64 (0 : Int))] [Slot.live (Row.data 3 (Ty.int IntKind.i64) (listN m)), Slot.live (Row.data 22 (Ty.int IntKind.u64) ys)])) ∧ (decide ((↑k : Int) < n) = false → R (D.own 0 0 ys.length none, [], [Row.data 22 (Ty.int IntKind.u64) ys]))) hmG (fun G R => by kernel_rfl) ?_
    refine ⟨fun h => ⟨SameK.same _, ?_⟩, fun h => ?_⟩
    · have hp := pow_pos2 (listN m).length
      refine b27 m n hm k (by omega) ys (by rw [hy]; simp; omega) (fun h => ?_) (fun h zs hz => ?_) (listN m).length 0 0 k (by omega) (by rw [Nat.pow_zero, Nat.div_one]) (by rw [Nat.zero_add]; rfl)
      · have h1 : 2 ^ (listN m).length ≤ k := (Nat.one_le_div_iff (by omega)).1 h
        unfold subsL
        rw [hy, show min n.toNat (2 ^ (listN m).length) = k by omega]
      · have h1 : k < 2 ^ (listN m).length := by
          rcases Nat.lt_or_ge k (2 ^ (listN m).length) with h2 | h2
          · exact h2
          · have := (Nat.one_le_div_iff (show 0 < 2 ^ (listN m).length by omega)).2 h2
            omega
        exact ih (k + 1) zs (by omega) (by omega) (by rw [hz, hy, List.range_succ, List.map_append]; rfl)
    · rw [decide_eq_false_iff_not] at h
      omega

theorem d27 (m : Nat) (n : Int) (hm : m < W64) (h0 : 0 ≤ n) (hn : n ≤ 1000) : Con Tryd.prog 27 [] [u64 m, .v (.int .i64 n)] ((.own 0 0 (subsL m n).length none)) [] [.data 22 (.int .u64) (subsL m n)] := by
  refine con_vc (how := [none]) (c := m27) (K := (KK m27)) spS (fun k => if k = 0 then [1,5,6,7] else [1,5,6,7,8,9,10]) (fun k => [⟨6, 22, .int .u64⟩]) 400 (.hd 0) (V := fun G R => Con Tryd.prog 22 [] [D.v (Value.int IntKind.u64 (↑m : Int))] (D.own 0 0 (listN (↑m : Int).toNat).length none) [] [Row.data 3 (Ty.int IntKind.i64) (listN (↑m : Int).toNat)] ∧ Value.int IntKind.u64 (↑m : Int) = Value.int IntKind.u64 (↑m : Int) ∧ SameK (KK m27 0) (KK m27 0) ∧ G 0 (stOf 45 [1, 5, 6, 7] [D.v (Value.int IntKind.i64 n), D.own 0 0 (listN (↑m : Int).toNat).length none, D.own 1 0 0 none, D.v (Value.int IntKind.i64 (0 : Int))] [Slot.live (Row.data 3 (Ty.int IntKind.i64) (listN (↑m : Int).toNat)), Slot.live (Row.data 22 (Ty.int IntKind.u64) [])])) hmG Tryd.func27 (by kernel_rfl) (by kernel_rfl) (fun G R => by kernel_rfl) ?_
  try dsimp only
  refine ⟨d22 m hm, rfl, SameK.same _, ?_⟩
  exact a27 m n hm hn n.toNat 0 [] (by omega) (Nat.zero_le _) rfl


end Go.Proofs.YtnakmganodkliaaDoorAm
