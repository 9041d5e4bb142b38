/- Sets of numbers: what ranges over the sequence. -/
import Derived.Test.YtnakmganodkliaaDoorMaB
set_option linter.unusedVariables false
set_option linter.unusedSimpArgs false
set_option maxRecDepth 100000
namespace Go.Proofs.YtnakmganodkliaaDoorAm
open Go

theorem roomI {n : Nat} (h : n ≤ 1000000) : roomy Tryd.prog 3 n := by
  have e : Tryd.prog.bytesOf 3 = 8 := by kernel_rfl
  unfold roomy
  rw [e]
  omega
theorem take_app {α : Type} (ys : List α) (z : α) : List.take ys.length (List.drop 0 ys) ++ List.take 1 (List.drop 0 [z]) = ys ++ [z] := by simp

theorem d21r (m : Nat)  : Con Tryd.prog 21 [] [u64 m] ((.fn 72 [.ptr 0 0 0])) [] [.box 22 [u64 m]] := by
  refine con_vc (how := [none]) (c := m21) (K := (KK m21)) spM (fun _ => []) (fun _ => []) 400 .stop (V := fun G R => R (D.fn 72 [D.ptr 0 0 0], [], [Row.box 22 [D.v (Value.int IntKind.u64 (↑m : Int))]])) hmG Tryd.func21 (by kernel_rfl) (by kernel_rfl) (fun G R => by kernel_rfl) ?_
  try dsimp only
  rfl

theorem d21 (m : Nat) : Con Tryd.prog 21 [] [u64 m] (.fn 72 [.rptr [u64 m]]) [] [] := con_frz (cs := [.int .u64 m]) (d21r m)

theorem r25 (m : Nat) : ∀ (zs ys : List Int), ys ++ zs = listN m → RndsK Tryd.prog m25 Tryd.f25.results.toList [none] 0 (.own 0 0 (listN m).length none, [], [.data 3 (.int .i64) (listN m)]) 0 (vals zs) (stOf 13 [3,6] [.ptr 0 0 0, .fn 72 [.rptr [u64 m]]] [.live (.box 27 [.own 1 0 (List.length (α := Int) ys) none]), .live (.data 3 (.int .i64) ys)]) := by
  intro zs
  induction zs with
  | nil =>
    intro ys h
    rw [List.append_nil] at h
    refine rndsK_nil (by decide) ?_
    refine gets_vc spM (fun _ => []) (fun _ => []) 400 .stop (V := fun G R => R (D.own 0 0 ys.length none, [], [Row.data 3 (Ty.int IntKind.i64) ys])) hmG (fun G R => by kernel_rfl) ?_
    subst h
    rfl
  | cons z zs ih =>
    intro ys h
    have hl : ys.length < 64 := by have := list_len m; rw [← h] at this; simp at this; omega
    refine rndsK_cons spM [3,4] (fun _ => [3,6]) (fun _ => [⟨3, 3, .int .i64⟩]) 400 .stop (V := fun GN GJ => SameK [Item.beginRound, Item.code (rfB (FF m25 0))] [Item.beginRound, Item.code (rfB (FF m25 0))] ∧ roomy Tryd.prog 3 (ys.length + 1) ∧ GN (stOf 13 [3, 6] [D.ptr 0 0 0, D.fn 72 [D.rptr [D.v (Value.int IntKind.u64 (↑m : Int))]]] [Slot.live (Row.box 27 [D.own 1 0 (ys.length + 1) none]), Slot.live (Row.data 3 (Ty.int IntKind.i64) (List.take ys.length (List.drop 0 ys) ++ List.take 1 (List.drop 0 [z])))])) hmG (by decide) (by rfl) (fun GN GJ => by kernel_rfl) ?_
    refine ⟨SameK.same _, roomI (by omega), ?_⟩
    have := ih (ys ++ [z]) (by simpa using h)
    rw [take_app]
    rw [List.length_append] at this
    exact this

theorem d25 (m : Nat) (hm : m < W64) : Con Tryd.prog 25 [] [u64 m] ((.own 0 0 (listN m).length none)) [] [.data 3 (.int .i64) (listN m)] := by
  refine con_vc (how := [none]) (c := m25) (K := (KX m25)) spM (fun _ => [3,6]) (fun _ => [⟨3, 3, .int .i64⟩]) 400 (.cut 100) (V := fun G R => Con Tryd.prog 21 [] [D.v (Value.int IntKind.u64 (↑m : Int))] (D.fn 72 [D.rptr [D.v (Value.int IntKind.u64 (↑m : Int))]]) [] [] ∧ Value.int IntKind.u64 (↑m : Int) = Value.int IntKind.u64 (↑m : Int) ∧ SameK (KX m25 100) (KX m25 100) ∧ G 100 (stOf 13 [3, 6] [D.ptr 0 0 0, D.fn 72 [D.rptr [D.v (Value.int IntKind.u64 (↑m : Int))]]] [Slot.live (Row.box 27 [D.own 1 0 0 none]), Slot.live (Row.data 3 (Ty.int IntKind.i64) [])])) hmG Tryd.func25 (by kernel_rfl) (by kernel_rfl) (fun G R => by kernel_rfl) ?_
  try dsimp only
  refine ⟨d21 m, rfl, SameK.same _, ?_⟩
  exact getsK_range (i := 0) (by decide) rfl rfl ⟨rfl, rfl⟩ (it72 m hm) (r25 m _ [] rfl)

theorem r29 (m : Nat) : ∀ (zs : List Int) (n : Nat), n + zs.length = (listN m).length → RndsK Tryd.prog m29 Tryd.f29.results.toList [none] 0 (.v (.int .i64 ((listN m).length : Nat)), [], []) 0 (vals zs) (stOf 10 [3,5] [.ptr 0 0 0, .fn 72 [.rptr [u64 m]]] [.live (.box 3 [.v (.int .i64 (n : Int))])]) := by
  intro zs
  induction zs with
  | nil =>
    intro n h
    refine rndsK_nil (by decide) ?_
    refine gets_vc spM (fun _ => []) (fun _ => []) 400 .stop (V := fun G R => R (D.v (Value.int IntKind.i64 n), [], [])) hmG (fun G R => by kernel_rfl) ?_
    have e : n = (listN m).length := by simpa using h
    subst e
    rfl
  | cons z zs ih =>
    intro n h
    have hl : n < 64 := by have := list_len m; simp at h; omega
    refine rndsK_cons spM [3,5] (fun _ => [3,5]) (fun _ => []) 400 .stop (V := fun GN GJ => SameK [Item.beginRound, Item.code (rfB (FF m29 0))] [Item.beginRound, Item.code (rfB (FF m29 0))] ∧ GN (stOf 10 [3, 5] [D.ptr 0 0 0, D.fn 72 [D.rptr [D.v (Value.int IntKind.u64 (↑m : Int))]]] [Slot.live (Row.box 3 [D.v (Value.int IntKind.i64 (IntKind.i64.wrap (n + (1 : Int))))])])) hmG (by decide) (by rfl) (fun GN GJ => by kernel_rfl) ?_
    refine ⟨SameK.same _, ?_⟩
    rw [wrG (by omega) (by omega)]
    exact ih (n + 1) (by simp at h; omega)

theorem d29 (m : Nat) (hm : m < W64) : Con Tryd.prog 29 [] [u64 m] ((.v (.int .i64 ((listN m).length : Nat)))) [] [] := by
  refine con_vc (how := [none]) (c := m29) (K := (KX m29)) spM (fun _ => [3,5]) (fun _ => []) 400 (.cut 100) (V := fun G R => Con Tryd.prog 21 [] [D.v (Value.int IntKind.u64 (↑m : Int))] (D.fn 72 [D.rptr [D.v (Value.int IntKind.u64 (↑m : Int))]]) [] [] ∧ Value.int IntKind.u64 (↑m : Int) = Value.int IntKind.u64 (↑m : Int) ∧ SameK (KX m29 100) (KX m29 100) ∧ G 100 (stOf 10 [3, 5] [D.ptr 0 0 0, D.fn 72 [D.rptr [D.v (Value.int IntKind.u64 (↑m : Int))]]] [Slot.live (Row.box 3 [D.v (Value.int IntKind.i64 (0 : Int))])])) hmG Tryd.func29 (by kernel_rfl) (by kernel_rfl) (fun G R => by kernel_rfl) ?_
  try dsimp only
  refine ⟨d21 m, rfl, SameK.same _, ?_⟩
  exact getsK_range (i := 0) (by decide) rfl rfl ⟨rfl, rfl⟩ (it72 m hm) (r29 m _ 0 (by simp))

theorem r34 (m : Nat) (k : Int) (hk : -9223372036854775808 ≤ k ∧ k < 9223372036854775808) : ∀ (zs ys : List Int), ys ++ zs = listN m → (k < 0 ∨ (ys.length : Int) ≤ k) → RndsK Tryd.prog m34 Tryd.f34.results.toList [none] 0 (.v (.int .i64 (nthN m k)), [], []) 0 (vals zs) (stOf 14 [3,4,7] [.ptr 0 0 0, .ptr 1 0 0, .fn 72 [.rptr [u64 m]]] [.live (.box 3 [.v (.int .i64 (IntKind.i64.wrap (k - (ys.length : Int))))]), .live (.box 3 [.v (.int .i64 0)])]) := by
  intro zs
  induction zs with
  | nil =>
    intro ys h hn
    refine rndsK_nil (by decide) ?_
    refine gets_vc spM (fun _ => []) (fun _ => []) 400 .stop (V := fun G R => R (D.v (Value.int IntKind.i64 (-1 : Int)), [], [])) hmG (fun G R => by kernel_rfl) ?_
    have e : nthN m k = -1 := by
      unfold nthN
      rw [List.append_nil] at h
      rw [if_neg]
      rw [← h]
      omega
    show _ = _
    rw [e]
  | cons z zs ih =>
    intro ys h hn
    have hl : ys.length < 64 := by have := list_len m; rw [← h] at this; simp at this; omega
    have hw : ∃ n, n = IntKind.i64.wrap (k - (ys.length : Int)) ∧ (n = 0 ↔ k = ys.length) ∧ IntKind.i64.wrap (n - 1) = IntKind.i64.wrap (k - ((ys.length + 1 : Nat) : Int)) := by
      refine ⟨_, rfl, ?_, ?_⟩
      · rw [IntKind.wrap_i64]
        omega
      · rw [IntKind.wrap_i64, IntKind.wrap_i64, IntKind.wrap_i64]
        omega
    obtain ⟨n, h1, h2, h3⟩ := hw
    rw [← h1]
    refine rndsK_cons spM [3,4,5] (fun _ => [3,4,7]) (fun _ => []) 400 (.fork .stop .stop) (V := fun GN GJ => SameK [Item.beginRound, Item.code (rfB (FF m34 0))] [Item.beginRound, Item.code (rfB (FF m34 0))] ∧ ((n == (0 : Int)) = true → GJ Code.ret (stOf 14 [3, 4, 7] [D.ptr 0 0 0, D.ptr 1 0 0, D.fn 72 [D.rptr [D.v (Value.int IntKind.u64 (↑m : Int))]]] [Slot.live (Row.box 3 [D.v (Value.int IntKind.i64 n)]), Slot.live (Row.box 3 [D.v (Value.int IntKind.i64 z)])])) ∧ ((n == (0 : Int)) = false → GN (stOf 14 [3, 4, 7] [D.ptr 0 0 0, D.ptr 1 0 0, D.fn 72 [D.rptr [D.v (Value.int IntKind.u64 (↑m : Int))]]] [Slot.live (Row.box 3 [D.v (Value.int IntKind.i64 (IntKind.i64.wrap (n - (1 : Int))))]), Slot.live (Row.box 3 [D.v (Value.int IntKind.i64 (0 : Int))])]))) hmG (by decide) (by rfl) (fun GN GJ => by kernel_rfl) ?_
    refine ⟨SameK.same _, fun h4 => ?_, fun h4 => ?_⟩
    · rw [beq_iff_eq] at h4
      have h5 := h2.1 h4
      refine gets_vc spM (fun _ => []) (fun _ => []) 400 .stop (V := fun G R => R (D.v (Value.int IntKind.i64 z), [], [])) hmG (fun G R => by kernel_rfl) ?_
      have e : nthN m k = z := by
        unfold nthN
        rw [← h, if_pos ⟨by omega, by rw [h5]; simp; omega⟩, h5]
        simp
      show _ = _
      rw [e]
    · rw [beq_eq_false_iff_ne] at h4
      rw [h3]
      have := ih (ys ++ [z]) (by simpa using h) (by
        have : ¬ k = ys.length := fun hk => h4 (h2.2 hk)
        simp
        omega)
      rw [List.length_append] at this
      exact this

theorem d34 (m : Nat) (k : Int) (hm : m < W64) (hk : -9223372036854775808 ≤ k ∧ k < 9223372036854775808) : Con Tryd.prog 34 [] [u64 m, .v (.int .i64 k)] ((.v (.int .i64 (nthN m k)))) [] [] := by
  refine con_vc (how := [none]) (c := m34) (K := (KX m34)) spM (fun _ => [3,4,7]) (fun _ => []) 400 (.cut 100) (V := fun G R => Con Tryd.prog 21 [] [D.v (Value.int IntKind.u64 (↑m : Int))] (D.fn 72 [D.rptr [D.v (Value.int IntKind.u64 (↑m : Int))]]) [] [] ∧ Value.int IntKind.u64 (↑m : Int) = Value.int IntKind.u64 (↑m : Int) ∧ SameK (KX m34 100) (KX m34 100) ∧ G 100 (stOf 14 [3, 4, 7] [D.ptr 0 0 0, D.ptr 1 0 0, D.fn 72 [D.rptr [D.v (Value.int IntKind.u64 (↑m : Int))]]] [Slot.live (Row.box 3 [D.v (Value.int IntKind.i64 k)]), Slot.live (Row.box 3 [D.v (Value.int IntKind.i64 (0 : Int))])])) hmG Tryd.func34 (by kernel_rfl) (by kernel_rfl) (fun G R => by kernel_rfl) ?_
  try dsimp only
  refine ⟨d21 m, rfl, SameK.same _, ?_⟩
  refine getsK_range (i := 0) (by decide) rfl rfl ⟨rfl, rfl⟩ (it72 m hm) ?_
  have := r34 m k hk _ [] rfl (by simp; omega)
  rw [List.length_nil, show k - ((0 : Nat) : Int) = k by omega, wrG hk.1 (by omega)] at this
  exact this


end Go.Proofs.YtnakmganodkliaaDoorAm
