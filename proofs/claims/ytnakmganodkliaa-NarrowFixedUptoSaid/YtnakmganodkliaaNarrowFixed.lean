/- What came out, given again, comes out again; each letter has its words, each word its letters. Its input reads as it did. No condition but the bulk that the second form bounds. -/
import Derived.Test.YtnakmganodkliaaQf
import Derived.Test.YtnakmganodkliaaKnc
import Derived.Test.YtnakmganodkliaaRows
import Derived.WalkKit
import Derived.OpenShut
import Derived.JoinedCond
import Derived.Deep.CondSized
namespace Go.Proofs.Ytnakmganodkliaa.narrowFixed
open Go Go.Proofs.YtnakmganodkliaaAm

theorem own : ownKnob Try.prog.godebug = none := by kernel_rfl

theorem kids : Kids Try.prog (· < Try.prog.types.size) := kids_rows (by kernel_rfl) (by kernel_rfl)

theorem full : ∀ t e, t < Try.prog.types.size → Try.prog.underlying t = some (.slice e) → 0 < Try.prog.cellsOf e := slices_full_of Try.prog (by kernel_rfl)

set_option maxRecDepth 100000 in
theorem lifted (os : Os) (started : os.Started) (H : Type) (enc : TypeId × Value → H) (F : Stop.Interp) :
    ReturnsInHanded {} Try.checked os 18 .any ((Rows.OpenSpec.upto Rows.narrowFixedSpec).pre6 enc Try.prog Try.f18 Rows.narrowFixedUptoRow.domain false) (((Rows.OpenSpec.upto Rows.narrowFixedSpec).at F).post enc Try.prog Try.f18 false true false false) := by
  refine returnsInHanded_of_cond_sized (C := Try.checked) (s := Rows.OpenSpec.upto Rows.narrowFixedSpec) (k := Rows.uptoSmall) rfl own started (by kernel_rfl) Try.func18
    (OpenSpec.witness (enc := enc) (C := Try.checked) (s := Rows.OpenSpec.upto Rows.narrowFixedSpec) (k := Rows.uptoSmall) rfl false ⟨#[], #[.agg #[.int .i64 0, .int .i64 0, .slice none 0 0, .slice none 0 0, .slice none 0 0, .slice none 0 0, .slice none 0 0]], []⟩ 8 (by kernel_rfl) (by kernel_rfl) (by kernel_rfl)
      (x := ([.agg [.agg [.lit (.int .i64 0), .lit (.int .i64 0), .nil, .nil, .nil], .nil, .nil]], [], [])) (by kernel_rfl) rfl (by kernel_rfl)) ?_
  intro W base args ds gs before hval hW _ _ hz _
  refine law_stepS (spec := Rows.narrowFixedSpec) (fn := Try.f18) (tys := [.prod (.prod (.int .i64) (.prod (.int .i64) (.prod (.sl .bool) (.prod (.sl .bool) (.sl .bool))))) (.prod (.sl (.sl (.int .i64))) (.sl (.int .u64)))]) (tb := 4) kids full (by rw [Try.params18]; decide +kernel) (by rw [Try.params18]; kernel_rfl) (by kernel_rfl) Try.underlying4 ?_ hval rfl ?_ hz hW
  · intro xs wf
    obtain ⟨⟨⟨h, w, B, R, L⟩, W, M⟩, _⟩ := xs
    exact ⟨[(Pr.mk ⟨h, w, B, R, L⟩ W (Nt M)).d], by rw [Try.params18]; show _ = (some [.agg [_, _, _, _, _, _, slU (Nt M)]] : Option (List D)); rw [show slU (Nt M) = .sl false false (.int .u64) M from congrArg _ (pr_fits wf.1).2]; kernel_rfl, d18 ⟨h, w, B, R, L⟩ W (Nt M) (pr_fits wf.1).1⟩
  · intro l hl
    match l, hl with
    | [_], _ => rfl

theorem closed : joinedFacts Try.prog 18 Try.f18 (Rows.OpenSpec.upto Rows.narrowFixedSpec).bare Rows.narrowFixedUptoRow = true := by
  unfold joinedFacts
  rw [enters, lifts, makes]
  kernel_rfl

theorem over : Rows.narrowFixedUptoRow.holds Try.pinned (Rows.OpenSpec.upto Rows.narrowFixedSpec) :=
  OpenClaim.holds_of_cond 18 Try.f18 rfl rfl rfl rfl rfl rfl rfl ⟨rfl, rfl, rfl, rfl, rfl⟩ rfl rfl rfl rfl rfl (by kernel_rfl) Try.func18 closed
    (of_decide_eq_true (by kernel_rfl)) (by unfold Func.isWrapper; first | (rw [if_pos (by decide +kernel)]; kernel_rfl) | (rw [if_neg (by decide +kernel)]; exact ⟨rfl, rfl⟩))
    (fun os started H enc _ F => lifted os started H enc F)

theorem proved : Rows.NarrowFixedUptoSaid := over
#print axioms proved
end Go.Proofs.Ytnakmganodkliaa.narrowFixed
