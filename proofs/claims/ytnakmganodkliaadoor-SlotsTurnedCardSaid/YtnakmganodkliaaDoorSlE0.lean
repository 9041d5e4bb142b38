/- Seats: plain functions; what may be called. -/
import Derived.Test.YtnakmganodkliaaDoorSlB
set_option linter.unusedVariables false
set_option linter.unusedSimpArgs false
set_option maxRecDepth 100000
namespace Go.Proofs.YtnakmganodkliaaDoorAm
open Go

abbrev SeT : Ty := .prod (.int .i64) (.int .i64)

/-- A slot's cells are told their seats. -/
def layCells (s : Int) : Int → List Int → List (Int × Int) → List (Int × Int)
  | _, [], A => A
  | k, c :: cs, A => layCells s (k + 1) cs (A.set c.toNat (s, k))

def laySlots : Int → List (Int × Bool × List Int) → List (Int × Int) → List (Int × Int) → List (Int × Int) × List (Int × Int)
  | _, [], A, D => (A, D)
  | s, x :: ss, A, D => if x.2.1 then laySlots (s + 1) ss A (layCells s 0 x.2.2 D) else laySlots (s + 1) ss (layCells s 0 x.2.2 A) D

def seatsF (g : Gr) : List (Int × Int) × List (Int × Int) := if checkF g = 0 then laySlots 0 (slotsF g) (List.replicate (g.h * g.w).toNat (-1, 0)) (List.replicate (g.h * g.w).toNat (-1, 0)) else ([], [])

def spSe : Sp := fun f args rd => match f, args with
  | 40, [.agg [.v (.int _ h), .v (.int _ w), b, r, l]] => withW rd h w b r l fun g ls => some { f := 40, args := [g.d], val := .tup [.own 0 0 (seatsF g).1.length none, .own 1 0 (seatsF g).2.length none], allocs := [.data 61 SeT (seatsF g).1, .data 61 SeT (seatsF g).2], lent := ls }
  | f, args => spL f args rd

theorem sl_len (g : Gr) : ∀ (m : Nat) (i num : Int), (slotsFrom g m i num).length ≤ 2 * m
  | 0, _, _ => by simp [slotsFrom]
  | m + 1, i, num => by
    simp only [slotsFrom, List.length_append]
    have := sl_len g m (i + 1) (if beginsB g i 0 || beginsB g i 1 then num + 1 else num)
    split <;> split <;> simp only [List.length_cons, List.length_nil] <;> omega

theorem lay_len (s : Int) : ∀ (cs : List Int) (k : Int) (A : List (Int × Int)), (layCells s k cs A).length = A.length
  | [], _, _ => rfl
  | c :: cs, k, A => by simp only [layCells]; rw [lay_len s cs (k + 1)]; simp

theorem bytes104 : Tryd.prog.bytesOf 61 = 16 := by kernel_rfl

theorem room104 {n : Nat} (h : n ≤ 1000000) : roomy Tryd.prog 61 n := by
  unfold roomy
  rw [bytes104]
  omega

theorem on_open {g : Gr} {y : Int} : ∀ (m : Nat) (i : Int), ∀ c ∈ onT g y m i, openF g c = true
  | 0, _, c, h => by simp [onT] at h
  | m + 1, i, c, h => by
    simp only [onT] at h
    split at h
    · rename_i hs
      rcases List.mem_cons.1 h with h | h
      · rw [h]; exact (step_facts hs).2.1
      · exact on_open m _ c h
    · simp at h

theorem slots_open {g : Gr} : ∀ (m : Nat) (i num : Int), ∀ x ∈ slotsFrom g m i num, x.2.2.length ≤ 257 ∧ ∀ c ∈ x.2.2, openF g c = true
  | 0, _, _, x, h => by simp [slotsFrom] at h
  | m + 1, i, num, x, h => by
    have key : ∀ y, beginsB g i y = true → (runOn g y i).length ≤ 257 ∧ ∀ c ∈ runOn g y i, openF g c = true := by
      intro y hb
      unfold beginsB at hb
      rw [Bool.and_eq_true] at hb
      refine ⟨by have := on_len g y 256 i; simp only [runOn, List.length_cons]; omega, fun c hc => ?_⟩
      rcases List.mem_cons.1 hc with h | h
      · rw [h]; exact (step_facts hb.2).1
      · exact on_open 256 i c h
    simp only [slotsFrom, List.mem_append] at h
    rcases h with h | h | h
    · split at h
      · rename_i hb; rw [List.mem_singleton.1 h]; exact key 0 hb
      · simp at h
    · split at h
      · rename_i hb; rw [List.mem_singleton.1 h]; exact key 1 hb
      · simp at h
    · exact slots_open m _ _ x h


end Go.Proofs.YtnakmganodkliaaDoorAm
