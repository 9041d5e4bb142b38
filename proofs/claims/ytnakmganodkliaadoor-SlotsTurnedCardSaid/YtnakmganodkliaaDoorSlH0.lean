/- The reference's seats: plain functions; what may be called. -/
import Derived.Test.YtnakmganodkliaaDoorSlD
set_option linter.unusedVariables false
set_option linter.unusedSimpArgs false
set_option maxRecDepth 100000
namespace Go.Proofs.YtnakmganodkliaaDoorAm
open Go

def findC (c : Int) : Int → List Int → Option Int
  | _, [] => none
  | k, x :: xs => if x = c then some k else findC c (k + 1) xs

def seatOf (d : Bool) (c : Int) : Int → List (Int × Bool × List Int) → Int × Int
  | _, [] => (-1, 0)
  | s, x :: ss => match (if x.2.1 = d then findC c 0 x.2.2 else none) with
    | some k => (s, k)
    | none => seatOf d c (s + 1) ss

def spH : Sp := fun f args rd => match f, args with
  | 82, [l, .v (.int _ i), .v (.bool d)] => match slC rd SlT [l] with
    | some S => some { f := 82, args := [.sl false false SlT S, .v (.int .i64 i), .v (.bool d)], val := .agg [.v (.int .i64 (seatOf d i 0 S).1), .v (.int .i64 (seatOf d i 0 S).2)], lent := refsDs [l] }
    | none => none
  | 41, [.agg [.v (.int _ h), .v (.int _ w), b, r, l]] => withW rd h w b r l fun g ls => some { f := 41, args := [g.d], val := .tup [.own 0 0 (seatsF g).1.length none, .own 1 0 (seatsF g).2.length none], allocs := [.data 61 SeT (seatsF g).1, .data 61 SeT (seatsF g).2], lent := ls }
  | f, args => spN f args rd

noncomputable def q82 : Code := (Tryd.f82.body).getD .skip
noncomputable def q41 : Code := (Tryd.f41.body).getD .skip

theorem find_none {c : Int} : ∀ {xs : List Int} {k : Int}, findC c k xs = none → ∀ x ∈ xs, x ≠ c
  | [], _, _, x, hx => by simp at hx
  | y :: xs, k, h, x, hx => by
    simp only [findC] at h
    split at h
    · cases h
    · rename_i hy
      rcases List.mem_cons.1 hx with rfl | hx
      · exact hy
      · exact find_none h x hx

theorem find_some {c : Int} : ∀ {xs : List Int} {k r : Int}, findC c k xs = some r → ∃ j : Nat, r = k + j ∧ j < xs.length ∧ xs.getD j 0 = c
  | [], _, _, h => by simp [findC] at h
  | y :: xs, k, r, h => by
    simp only [findC] at h
    split at h
    · rename_i hy
      simp only [Option.some.injEq] at h
      exact ⟨0, by simp [h], by simp, hy⟩
    · obtain ⟨j, a, b, e⟩ := find_some h
      exact ⟨j + 1, by rw [a]; show k + 1 + (j : Int) = k + ((j + 1 : Nat) : Int); omega, by simp only [List.length_cons]; omega, e⟩

/-- The search tells the seat. -/
theorem seatOf_is {d : Bool} {c : Int} : ∀ (ss P : List (Int × Bool × List Int)), (∀ s k s' k', Sits (P ++ ss) d c s k → Sits (P ++ ss) d c s' k' → s = s' ∧ k = k') → (∀ s k, ¬ Sits P d c s k) → IsSeat (P ++ ss) d c (seatOf d c P.length ss)
  | [], P, _, hn => by
    rw [List.append_nil]
    exact ⟨fun s k h => absurd h (hn s k), fun _ => rfl⟩
  | x :: ss, P, hu, hn => by
    have el : ((P ++ [x]).length : Int) = P.length + 1 := by simp
    simp only [seatOf]
    rw [List.append_cons] at hu ⊢
    split
    · rename_i k hk
      split at hk
      · rename_i hd
        obtain ⟨j, a, b, e⟩ := find_some hk
        have hs : Sits (P ++ [x] ++ ss) d c P.length j := sits_more (sits_snoc.2 (.inr ⟨rfl, hd, b, e⟩))
        refine ⟨fun s' k' h' => ?_, fun h => absurd hs (h _ _)⟩
        obtain ⟨p, q⟩ := hu _ _ _ _ hs h'
        rw [← p, ← q, a]
        simp
      · cases hk
    · rename_i hk
      rw [← el]
      refine seatOf_is ss (P ++ [x]) hu (fun s k h => ?_)
      rcases sits_snoc.1 h with h | ⟨_, hd, hl, e⟩
      · exact hn s k h
      · rw [if_pos hd] at hk
        refine find_none hk (x.2.2.getD k 0) ?_ e
        rw [List.getD_eq_getElem?_getD, List.getElem?_eq_getElem hl]
        exact List.getElem_mem hl

theorem seatOf_seats {g : Gr} (hc : checkF g = 0) {c : Int} (c0 : 0 ≤ c) : seatOf false c 0 (slotsF g) = sAt (seatsF g).1 c ∧ seatOf true c 0 (slotsF g) = sAt (seatsF g).2 c := by
  have h := seats_are hc c0
  have k : ∀ d, IsSeat (slotsF g) d c (seatOf d c 0 (slotsF g)) := fun d => seatOf_is (slotsF g) [] (fun _ _ _ _ a b => sits_unique hc a b) (fun s k h => by obtain ⟨x, hx, _⟩ := h; simp at hx)
  exact ⟨isSeat_unique (k false) h.1, isSeat_unique (k true) h.2.1⟩


end Go.Proofs.YtnakmganodkliaaDoorAm
