/- Parts are what steps reach. Its input reads as it did. No condition. -/
import Derived.Test.YtnakmganodkliaaLf
import Derived.Test.YtnakmganodkliaaGrP
import Derived.Test.YtnakmganodkliaaKnc
import Derived.Test.YtnakmganodkliaaRows
namespace Go.Proofs.Ytnakmganodkliaa.gridReach
open Go Go.Proofs.YtnakmganodkliaaAm

theorem own : ownKnob Try.prog.godebug = none := by kernel_rfl

theorem kids : Kids Try.prog (· < Try.prog.types.size) := kids_rows (by kernel_rfl) (by kernel_rfl)

theorem full : ∀ t e, t < Try.prog.types.size → Try.prog.underlying t = some (.slice e) → 0 < Try.prog.cellsOf e := slices_full_of Try.prog (by kernel_rfl)

set_option maxRecDepth 100000 in
theorem lifted (os : Os) (started : os.Started) (H : Type) (enc : TypeId × Value → H) :
    ReturnsInHanded {} Try.checked os 10 .any (Rows.gridReachSpec.pre6 enc Try.prog Try.f10 Rows.gridReachRow.domain false) (Rows.gridReachSpec.post enc Try.prog Try.f10 false true false false) := by
  refine returnsInHanded_of_change_sized (C := Try.checked) own started (by kernel_rfl) Try.func10
    (ChangeSpec.witness6 (enc := enc) (C := Try.checked) false ⟨#[], #[.agg #[.int .i64 0, .int .i64 0, .slice none 0 0, .slice none 0 0, .slice none 0 0], .int .i64 0], []⟩ 8 (by kernel_rfl) (by kernel_rfl) (by kernel_rfl) (by kernel_rfl)) ?_
  intro W base args ds gs before hval hW _ hz _
  refine law_stepS (fn := Try.f10) (tys := [.prod (.int .i64) (.prod (.int .i64) (.prod (.sl .bool) (.prod (.sl .bool) (.sl .bool)))), .int .i64]) (tb := 4) kids full (by rw [Try.params10]; decide +kernel) (by rw [Try.params10]; kernel_rfl) (by kernel_rfl) Try.underlying4 ?_ hval rfl ?_ hz hW
  · intro xs wf
    obtain ⟨⟨h, w, B, R, L⟩, a, _⟩ := xs
    exact ⟨[(Gr.mk h w B R L).d, .v (.int .i64 a)], by rw [Try.params10]; kernel_rfl, d10 ⟨h, w, B, R, L⟩ a⟩
  · intro l hl
    match l, hl with
    | [_, _], _ => rfl

theorem closed : joinedFacts Try.prog 10 Try.f10 Rows.gridReachSpec Rows.gridReachRow = true := by
  unfold joinedFacts
  rw [enters, lifts, makes]
  kernel_rfl

theorem over : Rows.gridReachRow.holds Try.pinned (OpenSpec.ofChange Rows.gridReachSpec) :=
  OpenClaim.holds_of_wide 10 Try.f10 rfl rfl rfl rfl rfl rfl rfl ⟨rfl, rfl, rfl, rfl, rfl⟩ rfl rfl rfl rfl rfl (by kernel_rfl) Try.func10 closed
    (of_decide_eq_true (by kernel_rfl)) (by unfold Func.isWrapper; first | (rw [if_pos (by decide +kernel)]; kernel_rfl) | (rw [if_neg (by decide +kernel)]; exact ⟨rfl, rfl⟩))
    (fun os started H enc _ => lifted os started H enc)

theorem proved : Rows.GridReachSaid := over
#print axioms proved
end Go.Proofs.Ytnakmganodkliaa.gridReach
