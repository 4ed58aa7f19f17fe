/- The closed facts of the row, one by one: printed by wip/mkseat.py. -/
import Derived.Test.YtcfbpicdpgnilaaGreatDoorRows
import Derived.JoinedOf
import Derived.KernelRfl
set_option autoImplicit false
namespace Go.Proofs.YtcfbpicdpgnilaaGreatDoor
open Go
theorem journalNil_fact0 : (Rows.journalNilRow.wf (OpenSpec.ofChange Rows.journalNilSpec)) = true := by kernel_rfl
theorem journalNil_fact1 : (laidOutB Tryz.prog) = true := by kernel_rfl
theorem journalNil_fact2 : (mapsRowed Tryz.prog) = true := by kernel_rfl
theorem journalNil_fact3 : (Tryz.f3.params.all (Tryz.prog.readableRec ·)) = true := by kernel_rfl
theorem journalNil_fact4 : (namedTie Tryz.prog Rows.journalNilRow.named Rows.journalNilSpec.vars) = true := by kernel_rfl
theorem journalNil_fact5 : ((Rows.journalNilRow.stops == [])) = true := by kernel_rfl
theorem journalNil_fact6 : ((Tryz.prog.stops == [])) = true := by kernel_rfl
theorem journalNil_fact7 : ((Rows.journalNilRow.knobs == [])) = true := by kernel_rfl
theorem journalNil_fact8 : ((Tryz.prog.stopKnobs == [])) = true := by kernel_rfl
theorem journalNil_fact9 : ((Rows.journalNilRow.inPlace == Tryz.prog.inPlace 3)) = true := by kernel_rfl
theorem journalNil_fact10 : ((Rows.journalNilRow.unfollowed == Tryz.prog.unfollowed 3)) = true := by kernel_rfl
theorem journalNil_fact11 : ((Rows.journalNilRow.recurses == Tryz.prog.recurses 3)) = true := by kernel_rfl
theorem journalNil_fact12 : ((Rows.journalNilRow.named == Tryz.prog.varsNamed 3)) = true := by kernel_rfl
theorem journalNil_fact13 : ((Rows.journalNilRow.maps == (Tryz.f3.params.toList ++ Rows.journalNilSpec.plain.varTypes Tryz.prog).any (Tryz.prog.mapsRec ·))) = true := by kernel_rfl
theorem journalNil_fact14 : ((Rows.journalNilRow.ifaces == (Tryz.f3.params.toList ++ Rows.journalNilSpec.plain.varTypes Tryz.prog).any (Tryz.prog.ifacesRec ·))) = true := by kernel_rfl
theorem journalNil_fact15 : ((Rows.journalNilRow.mapsOut == Tryz.prog.mapsAmong Tryz.f3.resultTypes.toList)) = true := by kernel_rfl
theorem journalNil_fact16 : ((Rows.journalNilRow.loops == (Tryz.f3.params.toList ++ Rows.journalNilSpec.plain.varTypes Tryz.prog).any (Tryz.prog.loopsFrom ·))) = true := by kernel_rfl
theorem journalNil_fact17 : ((Rows.journalNilRow.wideKeys == (Tryz.f3.params.toList ++ Rows.journalNilSpec.plain.varTypes Tryz.prog ++ Tryz.f3.resultTypes.toList).any (Tryz.prog.wideKeysFrom ·))) = true := by kernel_rfl
theorem journalNil_fact18 : (Rows.journalNilSpec.vars.all (Tryz.prog.varReadable ·)) = true := by kernel_rfl
theorem journalNil_fact19 : (Tryz.f3.resultTypes.all (fun t => Tryz.prog.readableRec t && decide (t < Tryz.prog.types.size))) = true := by kernel_rfl
theorem journalNil_fact20 : ((Rows.journalNilRow.ifacesOut == Tryz.f3.resultTypes.toList.any (Tryz.prog.ifacesRec ·))) = true := by kernel_rfl
theorem journalNil_fact21 : ((Rows.journalNilRow.loopsOut == Tryz.f3.resultTypes.toList.any (Tryz.prog.loopsFrom ·))) = true := by kernel_rfl
theorem journalNil_fact22 : ((Rows.journalNilRow.plainKeys == Tryz.prog.plainKeys)) = true := by kernel_rfl
theorem journalNil_fact23 : (Rows.journalNilRow.shortTexts.isNone) = true := by kernel_rfl
theorem journalNil_fact24 : (Tryz.prog.stopsHeard) = true := by kernel_rfl
theorem journalNil_fact25 : (Tryz.prog.mayEnter) = true := by kernel_rfl
theorem journalNil_fact26 : ((Rows.journalNilRow.lifted == Tryz.prog.liftsFinal)) = true := by kernel_rfl
theorem journalNil_fact27 : ((Tryz.prog.make == some Rows.journalNilRow.make)) = true := by kernel_rfl
theorem journalNil_fact28 : ((Rows.journalNilRow.kinds == (if Rows.journalNilRow.domain.isEmpty then [] else Tryz.f3.params.toList.map fun t => match Tryz.prog.underlying t with | some (.int k) => some k | _ => none))) = true := by kernel_rfl
theorem journalNil_fact29 : ((Rows.journalNilRow.pinned == Rows.journalNilRow.pinnedBy)) = true := by kernel_rfl
theorem journalNil_fact30 : ((Rows.journalNilRow.veiled == (Tryz.f3.params.toList ++ Rows.journalNilSpec.plain.varTypes Tryz.prog ++ Tryz.f3.resultTypes.toList).any (Tryz.prog.veiledRec ·))) = true := by kernel_rfl
theorem journalNil_fact31 : (Rows.journalNilRow.veiledFits Tryz.prog Tryz.f3.params.toList (Tryz.f3.params.toList ++ Rows.journalNilSpec.plain.varTypes Tryz.prog ++ Tryz.f3.resultTypes.toList)) = true := by kernel_rfl
theorem and_mk {a b : Bool} (ha : a = true) (hb : b = true) : (a && b) = true := by rw [ha, hb]; rfl
set_option maxRecDepth 100000 in
theorem journalNil_joined : joinedFacts Tryz.prog 3 Tryz.f3 Rows.journalNilSpec Rows.journalNilRow = true := (and_mk (and_mk (and_mk (and_mk (and_mk (and_mk (and_mk (and_mk (and_mk (and_mk (and_mk (and_mk (and_mk (and_mk (and_mk (and_mk (and_mk (and_mk (and_mk (and_mk (and_mk (and_mk (and_mk (and_mk (and_mk (and_mk (and_mk (and_mk (and_mk (and_mk (and_mk journalNil_fact0 journalNil_fact1) journalNil_fact2) journalNil_fact3) journalNil_fact4) journalNil_fact5) journalNil_fact6) journalNil_fact7) journalNil_fact8) journalNil_fact9) journalNil_fact10) journalNil_fact11) journalNil_fact12) journalNil_fact13) journalNil_fact14) journalNil_fact15) journalNil_fact16) journalNil_fact17) journalNil_fact18) journalNil_fact19) journalNil_fact20) journalNil_fact21) journalNil_fact22) journalNil_fact23) journalNil_fact24) journalNil_fact25) journalNil_fact26) journalNil_fact27) journalNil_fact28) journalNil_fact29) journalNil_fact30) journalNil_fact31)
end Go.Proofs.YtcfbpicdpgnilaaGreatDoor
