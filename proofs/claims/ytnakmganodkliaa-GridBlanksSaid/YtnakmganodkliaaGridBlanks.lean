/- Blank of any sides is the document: the law returns true for every input. Its input reads as it did. No condition. -/
import Derived.Test.YtnakmganodkliaaAmR
import Derived.Test.YtnakmganodkliaaGrF
import Derived.Test.YtnakmganodkliaaRows
namespace Go.Proofs.Ytnakmganodkliaa.gridBlanks
open Go Go.Proofs.YtnakmganodkliaaAm

theorem own : ownKnob Try.prog.godebug = none := by kernel_rfl

theorem kids : Kids Try.prog (· < Try.prog.types.size) := kids_rows (by kernel_rfl) (by kernel_rfl)

theorem full : ∀ t e, t < Try.prog.types.size → Try.prog.underlying t = some (.slice e) → 0 < Try.prog.cellsOf e := slices_full_of Try.prog (by kernel_rfl)

set_option maxRecDepth 100000 in
theorem lifted (os : Os) (started : os.Started) (H : Type) (enc : TypeId × Value → H) :
    ReturnsInHanded {} Try.checked os 5 .any (Rows.gridBlanksSpec.pre6 enc Try.prog Try.f5 Rows.gridBlanksRow.domain false) (Rows.gridBlanksSpec.post enc Try.prog Try.f5 false true false false) := by
  refine returnsInHanded_of_change (C := Try.checked) own started (by kernel_rfl) Try.func5
    (ChangeSpec.witness6 (enc := enc) (C := Try.checked) false ⟨#[], #[.int .i64 0, .int .i64 0], []⟩ 8 (by kernel_rfl) (by kernel_rfl) (by kernel_rfl) (by kernel_rfl)) ?_
  intro W base args ds gs before hval hW _ _
  refine law_step (fn := Try.f5) (tys := [.int .i64, .int .i64]) (tb := 4) kids full (by rw [Try.params5]; decide +kernel) (by rw [Try.params5]; kernel_rfl) (by kernel_rfl) Try.underlying4 ?_ hval rfl ?_ hW
  · intro xs wf
    obtain ⟨h, w, _⟩ := xs
    exact ⟨[.v (.int .i64 h), .v (.int .i64 w)], by rw [Try.params5]; kernel_rfl, law5 h w⟩
  · intro l hl
    match l, hl with
    | [_, _], _ => rfl

theorem over : Rows.gridBlanksRow.holds Try.pinned (OpenSpec.ofChange Rows.gridBlanksSpec) :=
  OpenClaim.holds_of_wide 5 Try.f5 rfl rfl rfl rfl rfl rfl rfl ⟨rfl, rfl, rfl, rfl, rfl⟩ rfl rfl rfl rfl rfl (by kernel_rfl) Try.func5 (by kernel_rfl)
    (of_decide_eq_true (by kernel_rfl)) (by unfold Func.isWrapper; first | (rw [if_pos (by decide +kernel)]; kernel_rfl) | (rw [if_neg (by decide +kernel)]; exact ⟨rfl, rfl⟩))
    (fun os started H enc _ => lifted os started H enc)

theorem proved : Rows.GridBlanksSaid := over
#print axioms proved
end Go.Proofs.Ytnakmganodkliaa.gridBlanks
