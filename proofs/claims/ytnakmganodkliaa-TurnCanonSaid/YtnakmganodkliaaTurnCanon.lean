/- Turned grids have one canon, which is its own. Its input reads as it did. No condition. -/
import Derived.Test.YtnakmganodkliaaLd
import Derived.Test.YtnakmganodkliaaGrV
import Derived.Test.YtnakmganodkliaaKnc
import Derived.Test.YtnakmganodkliaaRows
namespace Go.Proofs.Ytnakmganodkliaa.turnCanon
open Go Go.Proofs.YtnakmganodkliaaAm

theorem own : ownKnob Try.prog.godebug = none := by kernel_rfl

theorem kids : Kids Try.prog (· < Try.prog.types.size) := kids_rows (by kernel_rfl) (by kernel_rfl)

theorem full : ∀ t e, t < Try.prog.types.size → Try.prog.underlying t = some (.slice e) → 0 < Try.prog.cellsOf e := slices_full_of Try.prog (by kernel_rfl)

set_option maxRecDepth 100000 in
theorem lifted (os : Os) (started : os.Started) (H : Type) (enc : TypeId × Value → H) :
    ReturnsInHanded {} Try.checked os 13 .any (Rows.turnCanonSpec.pre6 enc Try.prog Try.f13 Rows.turnCanonRow.domain false) (Rows.turnCanonSpec.post enc Try.prog Try.f13 false true false false) := by
  refine returnsInHanded_of_change (C := Try.checked) own started (by kernel_rfl) Try.func13
    (ChangeSpec.witness6 (enc := enc) (C := Try.checked) false ⟨#[], #[.agg #[.int .i64 0, .int .i64 0, .slice none 0 0, .slice none 0 0, .slice none 0 0], .int .i64 0], []⟩ 8 (by kernel_rfl) (by kernel_rfl) (by kernel_rfl) (by kernel_rfl)) ?_
  intro W base args ds gs before hval hW _ _
  refine law_step (fn := Try.f13) (tys := [.prod (.int .i64) (.prod (.int .i64) (.prod (.sl .bool) (.prod (.sl .bool) (.sl .bool)))), .int .i64]) (tb := 4) kids full (by rw [Try.params13]; decide +kernel) (by rw [Try.params13]; kernel_rfl) (by kernel_rfl) Try.underlying4 ?_ hval rfl ?_ hW
  · intro xs wf
    obtain ⟨⟨h, w, B, R, L⟩, x, _⟩ := xs
    exact ⟨[(Gr.mk h w B R L).d, .v (.int .i64 x)], by rw [Try.params13]; kernel_rfl, d13 ⟨h, w, B, R, L⟩ x⟩
  · intro l hl
    match l, hl with
    | [_, _], _ => rfl

theorem closed : joinedFacts Try.prog 13 Try.f13 Rows.turnCanonSpec Rows.turnCanonRow = true := by
  unfold joinedFacts
  rw [enters, lifts, makes]
  kernel_rfl

theorem over : Rows.turnCanonRow.holds Try.pinned (OpenSpec.ofChange Rows.turnCanonSpec) :=
  OpenClaim.holds_of_wide 13 Try.f13 rfl rfl rfl rfl rfl rfl rfl ⟨rfl, rfl, rfl, rfl, rfl⟩ rfl rfl rfl rfl rfl (by kernel_rfl) Try.func13 closed
    (of_decide_eq_true (by kernel_rfl)) (by unfold Func.isWrapper; first | (rw [if_pos (by decide +kernel)]; kernel_rfl) | (rw [if_neg (by decide +kernel)]; exact ⟨rfl, rfl⟩))
    (fun os started H enc _ => lifted os started H enc)

theorem proved : Rows.TurnCanonSaid := over
#print axioms proved
end Go.Proofs.Ytnakmganodkliaa.turnCanon
