/- Turns are a group. Its input reads as it did. No condition. -/
import Derived.Test.YtnakmganodkliaaLd
import Derived.Test.YtnakmganodkliaaGrU
import Derived.Test.YtnakmganodkliaaKnc
import Derived.Test.YtnakmganodkliaaRows
namespace Go.Proofs.Ytnakmganodkliaa.turnGroup
open Go Go.Proofs.YtnakmganodkliaaAm

theorem own : ownKnob Try.prog.godebug = none := by kernel_rfl

theorem kids : Kids Try.prog (· < Try.prog.types.size) := kids_rows (by kernel_rfl) (by kernel_rfl)

theorem full : ∀ t e, t < Try.prog.types.size → Try.prog.underlying t = some (.slice e) → 0 < Try.prog.cellsOf e := slices_full_of Try.prog (by kernel_rfl)

set_option maxRecDepth 100000 in
theorem lifted (os : Os) (started : os.Started) (H : Type) (enc : TypeId × Value → H) :
    ReturnsInHanded {} Try.checked os 8 .any (Rows.turnGroupSpec.pre6 enc Try.prog Try.f8 Rows.turnGroupRow.domain false) (Rows.turnGroupSpec.post enc Try.prog Try.f8 false true false false) := by
  refine returnsInHanded_of_change (C := Try.checked) own started (by kernel_rfl) Try.func8
    (ChangeSpec.witness6 (enc := enc) (C := Try.checked) false ⟨#[], #[.agg #[.int .i64 0, .int .i64 0, .slice none 0 0, .slice none 0 0, .slice none 0 0], .agg #[.int .i64 0, .int .i64 0, .int .i64 0]], []⟩ 8 (by kernel_rfl) (by kernel_rfl) (by kernel_rfl) (by kernel_rfl)) ?_
  intro W base args ds gs before hval hW _ _
  refine law_step (fn := Try.f8) (tys := [.prod (.int .i64) (.prod (.int .i64) (.prod (.sl .bool) (.prod (.sl .bool) (.sl .bool)))), .prod (.int .i64) (.prod (.int .i64) (.int .i64))]) (tb := 4) kids full (by rw [Try.params8]; decide +kernel) (by rw [Try.params8]; kernel_rfl) (by kernel_rfl) Try.underlying4 ?_ hval rfl ?_ hW
  · intro xs wf
    obtain ⟨⟨h, w, B, R, L⟩, ⟨x, y, z⟩, _⟩ := xs
    exact ⟨[(Gr.mk h w B R L).d, .agg [.v (.int .i64 x), .v (.int .i64 y), .v (.int .i64 z)]], by rw [Try.params8]; kernel_rfl, d8 ⟨h, w, B, R, L⟩ x y z⟩
  · intro l hl
    match l, hl with
    | [_, _], _ => rfl

theorem closed : joinedFacts Try.prog 8 Try.f8 Rows.turnGroupSpec Rows.turnGroupRow = true := by
  unfold joinedFacts
  rw [enters, lifts, makes]
  kernel_rfl

theorem over : Rows.turnGroupRow.holds Try.pinned (OpenSpec.ofChange Rows.turnGroupSpec) :=
  OpenClaim.holds_of_wide 8 Try.f8 rfl rfl rfl rfl rfl rfl rfl ⟨rfl, rfl, rfl, rfl, rfl⟩ rfl rfl rfl rfl rfl (by kernel_rfl) Try.func8 closed
    (of_decide_eq_true (by kernel_rfl)) (by unfold Func.isWrapper; first | (rw [if_pos (by decide +kernel)]; kernel_rfl) | (rw [if_neg (by decide +kernel)]; exact ⟨rfl, rfl⟩))
    (fun os started H enc _ => lifted os started H enc)

theorem proved : Rows.TurnGroupSaid := over
#print axioms proved
end Go.Proofs.Ytnakmganodkliaa.turnGroup
