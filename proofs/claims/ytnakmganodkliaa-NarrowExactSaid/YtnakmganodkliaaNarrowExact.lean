/- Check and Narrow of any problem are the document; the problem stays as it was. Its input reads as it did. No condition. -/
import Derived.Test.YtnakmganodkliaaPf
import Derived.Test.YtnakmganodkliaaKnc
import Derived.Test.YtnakmganodkliaaRows
namespace Go.Proofs.Ytnakmganodkliaa.narrowExact
open Go Go.Proofs.YtnakmganodkliaaAm

theorem own : ownKnob Try.prog.godebug = none := by kernel_rfl

theorem kids : Kids Try.prog (· < Try.prog.types.size) := kids_rows (by kernel_rfl) (by kernel_rfl)

theorem full : ∀ t e, t < Try.prog.types.size → Try.prog.underlying t = some (.slice e) → 0 < Try.prog.cellsOf e := slices_full_of Try.prog (by kernel_rfl)

set_option maxRecDepth 100000 in
theorem lifted (os : Os) (started : os.Started) (H : Type) (enc : TypeId × Value → H) :
    ReturnsInHanded {} Try.checked os 15 .any (Rows.narrowExactSpec.pre6 enc Try.prog Try.f15 Rows.narrowExactRow.domain false) (Rows.narrowExactSpec.post enc Try.prog Try.f15 false true false false) := by
  refine returnsInHanded_of_change_sized (C := Try.checked) own started (by kernel_rfl) Try.func15
    (ChangeSpec.witness6 (enc := enc) (C := Try.checked) false ⟨#[], #[.agg #[.int .i64 0, .int .i64 0, .slice none 0 0, .slice none 0 0, .slice none 0 0, .slice none 0 0, .slice none 0 0]], []⟩ 8 (by kernel_rfl) (by kernel_rfl) (by kernel_rfl) (by kernel_rfl)) ?_
  intro W base args ds gs before hval hW _ hz _
  refine law_stepS (fn := Try.f15) (tys := [.prod (.prod (.int .i64) (.prod (.int .i64) (.prod (.sl .bool) (.prod (.sl .bool) (.sl .bool))))) (.prod (.sl (.sl (.int .i64))) (.sl (.int .u64)))]) (tb := 4) kids full (by rw [Try.params15]; decide +kernel) (by rw [Try.params15]; kernel_rfl) (by kernel_rfl) Try.underlying4 ?_ hval rfl ?_ hz hW
  · intro xs wf
    obtain ⟨⟨⟨h, w, B, R, L⟩, W, M⟩, _⟩ := xs
    exact ⟨[(Pr.mk ⟨h, w, B, R, L⟩ W (Nt M)).d], by rw [Try.params15]; show _ = (some [.agg [_, _, _, _, _, _, slU (Nt M)]] : Option (List D)); rw [show slU (Nt M) = .sl false false (.int .u64) M from congrArg _ (pr_fits wf.1).2]; kernel_rfl, d15 ⟨h, w, B, R, L⟩ W (Nt M) (pr_fits wf.1).1⟩
  · intro l hl
    match l, hl with
    | [_], _ => rfl

theorem closed : joinedFacts Try.prog 15 Try.f15 Rows.narrowExactSpec Rows.narrowExactRow = true := by
  unfold joinedFacts
  rw [enters, lifts, makes]
  kernel_rfl

theorem over : Rows.narrowExactRow.holds Try.pinned (OpenSpec.ofChange Rows.narrowExactSpec) :=
  OpenClaim.holds_of_wide 15 Try.f15 rfl rfl rfl rfl rfl rfl rfl ⟨rfl, rfl, rfl, rfl, rfl⟩ rfl rfl rfl rfl rfl (by kernel_rfl) Try.func15 closed
    (of_decide_eq_true (by kernel_rfl)) (by unfold Func.isWrapper; first | (rw [if_pos (by decide +kernel)]; kernel_rfl) | (rw [if_neg (by decide +kernel)]; exact ⟨rfl, rfl⟩))
    (fun os started H enc _ => lifted os started H enc)

theorem proved : Rows.NarrowExactSaid := over
#print axioms proved
end Go.Proofs.Ytnakmganodkliaa.narrowExact
