/- Symmetries are closed. Its input reads as it did. No condition. -/
import Derived.Test.YtnakmganodkliaaLf
import Derived.Test.YtnakmganodkliaaGrZ
import Derived.Test.YtnakmganodkliaaKnc
import Derived.Test.YtnakmganodkliaaRows
namespace Go.Proofs.Ytnakmganodkliaa.turnSymmetries
open Go Go.Proofs.YtnakmganodkliaaAm

theorem own : ownKnob Try.prog.godebug = none := by kernel_rfl

theorem kids : Kids Try.prog (· < Try.prog.types.size) := kids_rows (by kernel_rfl) (by kernel_rfl)

theorem full : ∀ t e, t < Try.prog.types.size → Try.prog.underlying t = some (.slice e) → 0 < Try.prog.cellsOf e := slices_full_of Try.prog (by kernel_rfl)

theorem fits_of {h w : Int} {B R L : List Bool} (wf : wfS (.prod (.int .i64) (.prod (.int .i64) (.prod (.sl .bool) (.prod (.sl .bool) (.sl .bool))))) (h, w, B, R, L)) : (Gr.mk h w B R L).fits := by
  obtain ⟨_, _, ⟨b, _⟩, ⟨r, _⟩, l, _⟩ := wf
  simp only [reachBytes, Ty.bytes, Nat.mul_one] at b r l
  exact ⟨b, r, l⟩

set_option maxRecDepth 100000 in
theorem lifted (os : Os) (started : os.Started) (H : Type) (enc : TypeId × Value → H) :
    ReturnsInHanded {} Try.checked os 11 .any (Rows.turnSymmetriesSpec.pre6 enc Try.prog Try.f11 Rows.turnSymmetriesRow.domain false) (Rows.turnSymmetriesSpec.post enc Try.prog Try.f11 false true false false) := by
  refine returnsInHanded_of_change_sized (C := Try.checked) own started (by kernel_rfl) Try.func11
    (ChangeSpec.witness6 (enc := enc) (C := Try.checked) false ⟨#[], #[.agg #[.int .i64 0, .int .i64 0, .slice none 0 0, .slice none 0 0, .slice none 0 0]], []⟩ 8 (by kernel_rfl) (by kernel_rfl) (by kernel_rfl) (by kernel_rfl)) ?_
  intro W base args ds gs before hval hW _ hz _
  refine law_stepS (fn := Try.f11) (tys := [.prod (.int .i64) (.prod (.int .i64) (.prod (.sl .bool) (.prod (.sl .bool) (.sl .bool))))]) (tb := 4) kids full (by rw [Try.params11]; decide +kernel) (by rw [Try.params11]; kernel_rfl) (by kernel_rfl) Try.underlying4 ?_ hval rfl ?_ hz hW
  · intro xs wf
    obtain ⟨⟨h, w, B, R, L⟩, _⟩ := xs
    exact ⟨[(Gr.mk h w B R L).d], by rw [Try.params11]; kernel_rfl, d11 ⟨h, w, B, R, L⟩ (fits_small (fits_of wf.1))⟩
  · intro l hl
    match l, hl with
    | [_], _ => rfl

theorem closed : joinedFacts Try.prog 11 Try.f11 Rows.turnSymmetriesSpec Rows.turnSymmetriesRow = true := by
  unfold joinedFacts
  rw [enters, lifts, makes]
  kernel_rfl

theorem over : Rows.turnSymmetriesRow.holds Try.pinned (OpenSpec.ofChange Rows.turnSymmetriesSpec) :=
  OpenClaim.holds_of_wide 11 Try.f11 rfl rfl rfl rfl rfl rfl rfl ⟨rfl, rfl, rfl, rfl, rfl⟩ rfl rfl rfl rfl rfl (by kernel_rfl) Try.func11 closed
    (of_decide_eq_true (by kernel_rfl)) (by unfold Func.isWrapper; first | (rw [if_pos (by decide +kernel)]; kernel_rfl) | (rw [if_neg (by decide +kernel)]; exact ⟨rfl, rfl⟩))
    (fun os started H enc _ => lifted os started H enc)

theorem proved : Rows.TurnSymmetriesSaid := over
#print axioms proved
end Go.Proofs.Ytnakmganodkliaa.turnSymmetries
