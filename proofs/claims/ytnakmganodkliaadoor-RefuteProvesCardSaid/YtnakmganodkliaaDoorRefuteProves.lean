/- Of a small problem a refutation is told just if it has no filling, and it is taken. Its input reads as it did. No condition but the listed variables' start. -/
import Derived.Test.YtnakmganodkliaaDoorPrk
import Derived.Test.YtnakmganodkliaaDoorKnc
import Derived.Test.YtnakmganodkliaaDoorRows
import Derived.Test.YtnakmganodkliaaDoorCards
import Derived.Test.YtnakmganodkliaaDoorTie
import Derived.LaidMore
import Derived.OpenShut
import Derived.Stop.Joined
import Derived.SevenTiedAt
namespace Go.Proofs.YtnakmganodkliaaDoor.refuteProves
open Go Go.Proofs.YtnakmganodkliaaDoorAm Go.ChangeShapes Go.WideShapes Go.ChangeAt Go.RowKit

theorem own : ownKnob Tryd.prog.godebug = none := by kernel_rfl

theorem kids : Kids Tryd.prog (· < Tryd.prog.types.size) := kids_rows (by kernel_rfl) (by kernel_rfl)

theorem full : ∀ t e, t < Tryd.prog.types.size → Tryd.prog.underlying t = some (.slice e) → 0 < Tryd.prog.cellsOf e := slices_full_of Tryd.prog (by kernel_rfl)

/-- What the listed variables hold. -/
def laid : List (String × DataW Unit) := [("math/bits.deBruijn64tab", Rows.laid_math_bits_deBruijn64tab)]

theorem door_met (os : Os) (args : Array Value) : laidMetH Tryd.prog laid ((World.doorLaid Tryd.prog 400 os).forCall (fun _ _ => 0) ⟨#[], args, []⟩).memory :=
  laidMetH_of_parts3 (fuel := 8) (laidMet_of_run' 8 (by kernel_rfl) (by kernel_rfl)) (by kernel_rfl) (by kernel_rfl)

set_option maxRecDepth 100000 in
theorem lifted (os : Os) (started : os.Started) (H : Type) (enc : TypeId × Value → H) :
    ReturnsInHanded {} Tryd.checked os 13 .any (fun w args => (Rows.refuteProvesSpec.pre enc Tryd.prog Tryd.f13 [] false w args ∧ laidMetH Tryd.prog laid w) ∧ sizedMet enc Tryd.prog Tryd.f13 (OpenSpec.ofChange Rows.refuteProvesSpec) false w args)
      (Rows.refuteProvesSpec.post enc Tryd.prog Tryd.f13 false true false false) := by
  refine returnsInHanded_of_change_and (C := Tryd.checked) (X := fun w _ => laidMetH Tryd.prog laid w) (fun _ _ _ hh h => h.of_heap hh) own started (by kernel_rfl) Tryd.func13
    (ChangeSpec.witness_shaped (enc := enc) (C := Tryd.checked) (os := os) (X := fun w _ => laidMetH Tryd.prog laid w) false (World.doorLaid Tryd.prog 400 os) #[.agg #[.int .i64 0, .int .i64 0, .slice none 0 0, .slice none 0 0, .slice none 0 0, .slice none 0 0, .slice none 0 0]] 8 rfl (World.shaped_of_RefB (by kernel_rfl) (by kernel_rfl)) (by kernel_rfl) (by kernel_rfl) (by kernel_rfl) (door_met os _)) ?_
  intro W base args ds gs before hval hW _ hz hL _
  refine law_stepS (fn := Tryd.f13) (tys := [.prod (.prod (.int .i64) (.prod (.int .i64) (.prod (.sl .bool) (.prod (.sl .bool) (.sl .bool))))) (.prod (.sl (.sl (.int .i64))) (.sl (.int .u64)))]) (tb := 4) kids full (by rw [Tryd.params13]; decide +kernel) (by rw [Tryd.params13]; kernel_rfl) (by kernel_rfl) Tryd.underlying4 ?_ hval rfl ?_ hz hW (glob_of (by kernel_rfl) hL)
  · intro xs wf
    obtain ⟨⟨⟨h, w, B, R, L⟩, W, M⟩, _⟩ := xs
    exact ⟨[(Pr.mk ⟨h, w, B, R, L⟩ W (Nt M)).d], by rw [Tryd.params13]; show _ = (some [.agg [_, _, _, _, _, _, slU (Nt M)]] : Option (List D)); rw [show slU (Nt M) = .sl false false (.int .u64) M from congrArg _ (pr_fits wf.1).2]; kernel_rfl, d13U ⟨h, w, B, R, L⟩ W (Nt M) (pr_fits wf.1).1.small⟩
  · intro l hl
    match l, hl with
    | [_], _ => rfl

theorem closed : joinedFacts Tryd.prog 13 Tryd.f13 Rows.refuteProvesSpec Rows.refuteProvesRow = true := by
  unfold joinedFacts
  rw [enters, lifts, makes]
  kernel_rfl

theorem row_holds : Rows.RefuteProvesSaid :=
  OpenClaim.holds_of_wide 13 Tryd.f13 rfl rfl rfl rfl rfl rfl rfl ⟨rfl, rfl, rfl, rfl, rfl⟩ rfl rfl rfl rfl rfl (by kernel_rfl) Tryd.func13 closed
    (of_decide_eq_true (by kernel_rfl)) (by unfold Func.isWrapper; first | (rw [if_pos (by decide +kernel)]; kernel_rfl) | (rw [if_neg (by decide +kernel)]; exact ⟨rfl, rfl⟩))
    (fun os started H enc _ => lifted os started H enc)

theorem proved : Rows.RefuteProvesCardSaid :=
  Claim7.holds_tied_plain_at .later [] [.data] true (true, "156570c0938ef06fe48c979f9f8d7de248cc5e527ed7344f03e9433a9067221d") false
    row_holds (fun _ h => by cases h) (by kernel_rfl) (fun _ h => by cases h) refuteProves_row_tie rfl ⟨rfl, rfl⟩ (by kernel_rfl) rfl
    (fun f fn hf hfn => by
      obtain rfl : f = 13 := Option.some.inj ((show Tryd.prog.funcNamed Rows.refuteProvesRow.func = some 13 by kernel_rfl).symm.trans hf) |>.symm
      obtain rfl : fn = Tryd.f13 := (Option.some.inj (Tryd.func13.symm.trans hfn)).symm
      exact ⟨by kernel_rfl, fun j t ht => by
        rw [Tryd.params13] at ht
        have hm : t ∈ [73] := by simpa using Array.mem_of_getElem? ht
        have hall : ([73].all fun u => !Tryd.prog.wantsStandIn u) = true := by kernel_rfl
        exact (show Tryd.prog.wantsStandIn t = false by simpa using List.all_eq_true.1 hall t hm)⟩)
    (by kernel_rfl)
#print axioms proved
end Go.Proofs.YtnakmganodkliaaDoor.refuteProves
