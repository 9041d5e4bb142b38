/- Sets of numbers: the sequence; what ranges over it. -/
import Derived.Test.YtnakmganodkliaaDoorMaA
set_option linter.unusedVariables false
set_option linter.unusedSimpArgs false
set_option maxRecDepth 100000
namespace Go.Proofs.YtnakmganodkliaaDoorAm
open Go

/-- What the sequence yields. -/
def vals (l : List Int) : List (List Value) := l.map fun i => [.int .i64 i]

theorem it72 (m : Nat) (hm : m < W64) : IterP Tryd.prog 72 [.rptr [u64 m]] (vals (listN m)) := by
  refine iter_of Tryd.func72 (by kernel_rfl) (c := m72) (by kernel_rfl) (by kernel_rfl) ?_
  intro l J Jx hJU hJg hJxg hY
  have hlen : (vals (listN m)).length = (listN m).length := by unfold vals; rw [List.length_map]
  rw [hlen]
  have loop : ∀ (n i r : Nat), r < W64 → (listN r).length = n → i + n = (listN m).length → (∀ j : Nat, (listN m)[i + j]? = (listN r)[j]?) → Goes Tryd.prog (itGoal Tryd.prog J Jx (listN m).length i) 0 (KX m72 0) (stOf 16 [0,1,3] [.v (.func (.yield l) #[] #[]), .rptr [u64 m], .v (.int .u64 (r : Int))] []) := by
    intro n
    induction n with
    | zero =>
      intro i r hr hn hi hx
      have h0 : r = 0 := by
        by_cases h : r = 0
        · exact h
        · obtain ⟨t, _, _, hl⟩ := list_step h hr
          rw [hl] at hn
          simp at hn
      refine it_vc (K := (KX m72)) spM (fun k => if k = 0 then [0,1,3] else [0,1,3]) (fun _ => []) 400 (.fork (.cut 202) .stop) (V := fun G E => (((↑r : Int) != (0 : Int)) = true → SameK (KX m72 202) (KX m72 202) ∧ G 202 (stOf 16 [0, 1, 3] [D.v (Value.func (Fn.yield l) (Array.mk []) (Array.mk [])), D.rptr [D.v (Value.int IntKind.u64 (↑m : Int))], D.v (Value.int IntKind.u64 (↑r : Int))] [])) ∧ (((↑r : Int) != (0 : Int)) = false → E none (St.mk [D.v (Value.func (Fn.yield l) (Array.mk []) (Array.mk [])), D.rptr [D.v (Value.int IntKind.u64 (↑m : Int))], D.top, D.v (Value.int IntKind.u64 (↑r : Int)), D.top, D.v (Value.int IntKind.u64 (↑r : Int)), D.v (Value.bool ((↑r : Int) != (0 : Int))), D.top, D.top, D.top, D.top, D.top, D.top, D.top, D.top, D.top] []))) hmG (hJg) (fun G E => by kernel_rfl) ?_
      subst h0
      refine ⟨fun h => by simp at h, fun _ => ?_⟩
      show i = (listN m).length
      omega
    | succ n ih =>
      intro i r hr hn hi hx
      have h0 : r ≠ 0 := by
        rintro rfl
        rw [list_zero] at hn
        simp at hn
      obtain ⟨t, ht, hneg, hl⟩ := list_step h0 hr
      refine it_vc (K := (KX m72)) spM (fun k => if k = 0 then [0,1,3] else [0,1,3]) (fun _ => []) 400 (.fork (.cut 202) .stop) (V := fun G E => (((↑r : Int) != (0 : Int)) = true → SameK (KX m72 202) (KX m72 202) ∧ G 202 (stOf 16 [0, 1, 3] [D.v (Value.func (Fn.yield l) (Array.mk []) (Array.mk [])), D.rptr [D.v (Value.int IntKind.u64 (↑m : Int))], D.v (Value.int IntKind.u64 (↑r : Int))] [])) ∧ (((↑r : Int) != (0 : Int)) = false → E none (St.mk [D.v (Value.func (Fn.yield l) (Array.mk []) (Array.mk [])), D.rptr [D.v (Value.int IntKind.u64 (↑m : Int))], D.top, D.v (Value.int IntKind.u64 (↑r : Int)), D.top, D.v (Value.int IntKind.u64 (↑r : Int)), D.v (Value.bool ((↑r : Int) != (0 : Int))), D.top, D.top, D.top, D.top, D.top, D.top, D.top, D.top, D.top] []))) hmG (hJg) (fun G E => by kernel_rfl) ?_
      refine ⟨fun _ => ⟨SameK.same _, ?_⟩, fun h => by simp at h; omega⟩
      show Goes Tryd.prog (itGoal Tryd.prog J Jx (listN m).length i) 0 (RR m72 2) _
      have hxt : (vals (listN m))[i]? = some [.int .i64 (t : Int)] := by
        have := hx 0
        rw [Nat.add_zero, hl] at this
        unfold vals
        rw [List.getElem?_map, this]
        rfl
      refine it_round_vc spM (fun k => if k = 0 then [0,1,3] else [0,1,3]) (fun _ => []) 400 3 (.f (.hd 0)) (.t .stop) (V := fun G E G' E' => Con Tryd.prog 73 [] [D.v (Value.int IntKind.u64 (↑r : Int))] (D.v (Value.int IntKind.i64 (tzI (↑r : Int)))) [] [] ∧ Value.int IntKind.u64 (↑r : Int) = Value.int IntKind.u64 (↑r : Int) ∧ D.v (Value.func (Fn.yield l) (Array.mk []) (Array.mk [])) = D.v (Value.func (Fn.yield l) (Array.mk []) (Array.mk [])) ∧ [D.v (Value.int IntKind.i64 (tzI (↑r : Int)))] = [D.v (Value.int IntKind.i64 (↑t : Int))] ∧ ((!true) = false ∧ SameK (KX m72 0) (KX m72 0) ∧ G 0 (stOf 16 [0, 1, 3] [D.v (Value.func (Fn.yield l) (Array.mk []) (Array.mk [])), D.rptr [D.v (Value.int IntKind.u64 (↑m : Int))], D.v (Value.int IntKind.u64 (IntKind.u64.wrap (↑(BitVec.ofInt 64 (↑r : Int) &&& BitVec.ofInt 64 (IntKind.u64.wrap ((↑r : Int) - (1 : Int)))).toNat : Int)))] [])) ∧ (!false) = true ∧ E' (some Code.ret) (St.mk [D.v (Value.func (Fn.yield l) (Array.mk []) (Array.mk [])), D.rptr [D.v (Value.int IntKind.u64 (↑m : Int))], D.top, D.v (Value.int IntKind.u64 (↑r : Int)), D.top, D.top, D.top, D.top, D.top, D.top, D.top, D.v (Value.func (Fn.yield l) (Array.mk []) (Array.mk [])), D.v (Value.int IntKind.u64 (↑r : Int)), D.v (Value.int IntKind.i64 (tzI (↑r : Int))), D.v (Value.bool false), D.v (Value.bool !false)] [Slot.free, Slot.free, Slot.free, Slot.free, Slot.free, Slot.free, Slot.free, Slot.free])) hmG hJU hJg hJxg hY hxt ⟨3, by kernel_rfl⟩ (fun G E G' E' => by kernel_rfl) ?_
      have c := d73 r hr h0
      have e1 : tzI (r : Int) = (t : Int) := by unfold tzI; rw [Int.toNat_natCast, hl]; rfl
      have hr' : r < 18446744073709551616 := hr
      have w1 : IntKind.u64.wrap ((r : Int) - 1) = ((r - 1 : Nat) : Int) := by
        have e : (r : Int) - 1 = ((r - 1 : Nat) : Int) := by omega
        rw [e]
        exact wrU' (Nat.lt_of_le_of_lt (Nat.sub_le _ _) hr)
      have w2 := andU (a := r) (b := r - 1) hr (Nat.lt_of_le_of_lt (Nat.sub_le _ _) hr)
      have w3 : IntKind.u64.wrap ((r &&& (r - 1) : Nat) : Int) = ((r &&& (r - 1) : Nat) : Int) := wrU' (and_lt hr)
      rw [hl] at hn
      have hgo := ih (i + 1) (r &&& (r - 1)) (and_lt hr) (by simpa using hn) (by omega) (fun j => by
        have := hx (j + 1)
        rw [hl, List.getElem?_cons_succ] at this
        rw [← this]
        congr 1
        omega)
      rw [w1, w2, w3, e1]
      rw [e1] at c
      simp only [sameK_iff, Bool.not_true, Bool.not_false, true_and, and_true]
      exact ⟨c, hgo, trivial⟩
  refine it_vc (K := (KX m72)) spM (fun k => if k = 0 then [0,1,3] else [0,1,3]) (fun _ => []) 400 (.hd 0) (V := fun G E => SameK (KX m72 0) (KX m72 0) ∧ G 0 (stOf 16 [0, 1, 3] [D.v (Value.func (Fn.yield l) (Array.mk []) (Array.mk [])), D.rptr [D.v (Value.int IntKind.u64 (↑m : Int))], D.v (Value.int IntKind.u64 (↑m : Int))] [])) hmG (hJg) (fun G E => by kernel_rfl) ?_
  exact ⟨SameK.same _, loop _ 0 m hm rfl (by omega) (fun j => by rw [Nat.zero_add])⟩


end Go.Proofs.YtnakmganodkliaaDoorAm
