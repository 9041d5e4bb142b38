/- Seats and the list of slots tell the same. Its input reads as it did. Asked of arguments of at most 1048576 values and letters together; the listed variables start as the text lays them. -/
import Derived.Test.YtnakmganodkliaaDoorLf
import Derived.Test.YtnakmganodkliaaDoorSlL
import Derived.Test.YtnakmganodkliaaDoorKnc
import Derived.Test.YtnakmganodkliaaDoorRows
import Derived.Test.YtnakmganodkliaaDoorCards
import Derived.Test.YtnakmganodkliaaDoorTie
import Derived.LaidMore
import Derived.OpenShut
import Derived.Stop.Joined
import Derived.SevenTiedAt
import Derived.Deep.DeepHandedRow
import Derived.Deep.DeepWitnessRowRef
namespace Go.Proofs.YtnakmganodkliaaDoor.slotsSeats
open Go Go.Proofs.YtnakmganodkliaaDoorAm Go.ChangeShapes Go.WideShapes Go.ChangeAt Go.RowKit

theorem own : ownKnob Tryd.prog.godebug = none := by kernel_rfl

theorem kids : Kids Tryd.prog (· < Tryd.prog.types.size) := kids_rows (by kernel_rfl) (by kernel_rfl)

theorem full : ∀ t e, t < Tryd.prog.types.size → Tryd.prog.underlying t = some (.slice e) → 0 < Tryd.prog.cellsOf e := slices_full_of Tryd.prog (by kernel_rfl)

theorem door_met (os : Os) (args : Array Value) : laidMetH Tryd.prog Rows.slotsSeatsUptoRow.laid ((World.doorLaid Tryd.prog 400 os).forCall (fun _ _ => 0) ⟨#[], args, []⟩).memory :=
  laidMetH_of_parts3 (fuel := 8) (laidMet_of_run' 8 (by kernel_rfl) (by kernel_rfl)) (by kernel_rfl) (by kernel_rfl)

theorem reads (os : Os) {H : Type} (enc : TypeId × Value → H) : ∃ x, DataW.whole enc Tryd.prog ((World.doorLaid Tryd.prog 400 os).forCall (fun _ _ => 0) ⟨#[], #[.agg #[.int .i64 0, .int .i64 0, .slice none 0 0, .slice none 0 0, .slice none 0 0]], []⟩).memory Tryd.f9.params.toList Rows.slotsSeatsSpec.vars false #[.agg #[.int .i64 0, .int .i64 0, .slice none 0 0, .slice none 0 0, .slice none 0 0]].toList 8 = some x ∧ Rows.uptoSmall H (x.1 ++ x.2.1) = true := by
  have h : (match DataW.whole enc Tryd.prog ((World.doorLaid Tryd.prog 400 os).forCall (fun _ _ => 0) ⟨#[], #[.agg #[.int .i64 0, .int .i64 0, .slice none 0 0, .slice none 0 0, .slice none 0 0]], []⟩).memory Tryd.f9.params.toList Rows.slotsSeatsSpec.vars false #[.agg #[.int .i64 0, .int .i64 0, .slice none 0 0, .slice none 0 0, .slice none 0 0]].toList 8 with | some x => Rows.uptoSmall H (x.1 ++ x.2.1) | none => false) = true := by kernel_rfl
  split at h
  · rename_i x hx
    exact ⟨x, hx, h⟩
  · cases h

set_option maxRecDepth 100000 in
theorem lifted (os : Os) (started : os.Started) (H : Type) (enc : TypeId × Value → H) (F : Stop.Interp) :
    ReturnsInHanded {} Tryd.checked os 9 .any ((Rows.OpenSpec.upto Rows.slotsSeatsSpec).preRow enc Tryd.prog Tryd.f9 Rows.slotsSeatsUptoRow.domain false Rows.slotsSeatsUptoRow.laid) (((Rows.OpenSpec.upto Rows.slotsSeatsSpec).at F).post enc Tryd.prog Tryd.f9 false true false false) := by
  obtain ⟨x, hx, hk⟩ := reads os enc
  refine returnsInHanded_of_row (C := Tryd.checked) (s := Rows.OpenSpec.upto Rows.slotsSeatsSpec) own started (by kernel_rfl) Tryd.func9
    (witness_row_atRef (enc := enc) (C := Tryd.checked) false (World.doorLaid Tryd.prog 400 os) #[.agg #[.int .i64 0, .int .i64 0, .slice none 0 0, .slice none 0 0, .slice none 0 0]] rfl (by kernel_rfl) (by kernel_rfl) (by kernel_rfl)
      (OpenSpec.preRow_of_cond 8 hx rfl (fun k hk' => by cases hk'; exact hk) (by kernel_rfl) (door_met os _))) ?_
  intro W base args ds gs before hval hW _ _ hz hL _ _
  refine law_stepS (spec := Rows.slotsSeatsSpec) (fn := Tryd.f9) (tys := [.prod (.int .i64) (.prod (.int .i64) (.prod (.sl .bool) (.prod (.sl .bool) (.sl .bool))))]) (tb := 4) kids full (by rw [Tryd.params9]; decide +kernel) (by rw [Tryd.params9]; kernel_rfl) (by kernel_rfl) Tryd.underlying4 ?_ hval rfl ?_ hz hW 
  · intro xs wf
    obtain ⟨⟨h, w, B, R, L⟩, _⟩ := xs
    exact ⟨[(Gr.mk h w B R L).d], by rw [Tryd.params9]; kernel_rfl, d9 ⟨h, w, B, R, L⟩⟩
  · intro l hl
    match l, hl with
    | [_], _ => rfl

theorem closed : joinedFacts Tryd.prog 9 Tryd.f9 (Rows.OpenSpec.upto Rows.slotsSeatsSpec).bare Rows.slotsSeatsUptoRow = true := by
  unfold joinedFacts
  rw [enters, lifts, makes]
  kernel_rfl

theorem row_holds : Rows.SlotsSeatsUptoSaid :=
  OpenClaim.holds_of_cond 9 Tryd.f9 rfl rfl rfl rfl rfl rfl rfl ⟨rfl, rfl, rfl, rfl, rfl⟩ rfl rfl rfl rfl rfl (by kernel_rfl) Tryd.func9 closed
    (of_decide_eq_true (by kernel_rfl)) (by unfold Func.isWrapper; first | (rw [if_pos (by decide +kernel)]; kernel_rfl) | (rw [if_neg (by decide +kernel)]; exact ⟨rfl, rfl⟩))
    (fun os started H enc _ F => by rw [OpenClaim.pre_eq_preRow]; exact lifted os started H enc F)

theorem proved : Rows.SlotsSeatsUptoCardSaid :=
  Claim7.holds_tied_plain_at .later [] [.data, .data, .data] true (true, "156570c0938ef06fe48c979f9f8d7de248cc5e527ed7344f03e9433a9067221d") false
    row_holds (fun _ h => by cases h) (by kernel_rfl) (fun _ h => by cases h) slotsSeatsUpto_row_tie rfl ⟨rfl, rfl⟩ (by kernel_rfl) rfl
    (fun f fn hf hfn => by
      obtain rfl : f = 9 := Option.some.inj ((show Tryd.prog.funcNamed Rows.slotsSeatsUptoRow.func = some 9 by kernel_rfl).symm.trans hf) |>.symm
      obtain rfl : fn = Tryd.f9 := (Option.some.inj (Tryd.func9.symm.trans hfn)).symm
      exact ⟨by kernel_rfl, fun j t ht => by
        rw [Tryd.params9] at ht
        have hm : t ∈ [46] := by simpa using Array.mem_of_getElem? ht
        have hall : ([46].all fun u => !Tryd.prog.wantsStandIn u) = true := by kernel_rfl
        exact (show Tryd.prog.wantsStandIn t = false by simpa using List.all_eq_true.1 hall t hm)⟩)
    (by kernel_rfl)
#print axioms proved
end Go.Proofs.YtnakmganodkliaaDoor.slotsSeats
