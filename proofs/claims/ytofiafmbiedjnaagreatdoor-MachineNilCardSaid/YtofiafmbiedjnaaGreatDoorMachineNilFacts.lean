/- The closed facts of the row, one by one: printed by wip/mkseat.py. -/
import Derived.Test.YtofiafmbiedjnaaGreatDoorRows
import Derived.JoinedOf
import Derived.KernelRfl
set_option autoImplicit false
namespace Go.Proofs.YtofiafmbiedjnaaGreatDoor
open Go
theorem machineNil_fact0 : (Rows.machineNilRow.wf (OpenSpec.ofChange Rows.machineNilSpec)) = true := by kernel_rfl
theorem machineNil_fact1 : (laidOutB Tryz.prog) = true := by kernel_rfl
theorem machineNil_fact2 : (mapsRowed Tryz.prog) = true := by kernel_rfl
theorem machineNil_fact3 : (Tryz.f3.params.all (Tryz.prog.readableRec ·)) = true := by kernel_rfl
theorem machineNil_fact4 : (namedTie Tryz.prog Rows.machineNilRow.named Rows.machineNilSpec.vars) = true := by kernel_rfl
theorem machineNil_fact5 : ((Rows.machineNilRow.stops == [])) = true := by kernel_rfl
theorem machineNil_fact6 : ((Tryz.prog.stops == [])) = true := by kernel_rfl
theorem machineNil_fact7 : ((Rows.machineNilRow.knobs == [])) = true := by kernel_rfl
theorem machineNil_fact8 : ((Tryz.prog.stopKnobs == [])) = true := by kernel_rfl
theorem machineNil_fact9 : ((Rows.machineNilRow.inPlace == Tryz.prog.inPlace 3)) = true := by kernel_rfl
theorem machineNil_fact10 : ((Rows.machineNilRow.unfollowed == Tryz.prog.unfollowed 3)) = true := by kernel_rfl
theorem machineNil_fact11 : ((Rows.machineNilRow.recurses == Tryz.prog.recurses 3)) = true := by kernel_rfl
theorem machineNil_fact12 : ((Rows.machineNilRow.named == Tryz.prog.varsNamed 3)) = true := by kernel_rfl
theorem machineNil_fact13 : ((Rows.machineNilRow.maps == (Tryz.f3.params.toList ++ Rows.machineNilSpec.plain.varTypes Tryz.prog).any (Tryz.prog.mapsRec ·))) = true := by kernel_rfl
theorem machineNil_fact14 : ((Rows.machineNilRow.ifaces == (Tryz.f3.params.toList ++ Rows.machineNilSpec.plain.varTypes Tryz.prog).any (Tryz.prog.ifacesRec ·))) = true := by kernel_rfl
theorem machineNil_fact15 : ((Rows.machineNilRow.mapsOut == Tryz.prog.mapsAmong Tryz.f3.resultTypes.toList)) = true := by kernel_rfl
theorem machineNil_fact16 : ((Rows.machineNilRow.loops == (Tryz.f3.params.toList ++ Rows.machineNilSpec.plain.varTypes Tryz.prog).any (Tryz.prog.loopsFrom ·))) = true := by kernel_rfl
theorem machineNil_fact17 : ((Rows.machineNilRow.wideKeys == (Tryz.f3.params.toList ++ Rows.machineNilSpec.plain.varTypes Tryz.prog ++ Tryz.f3.resultTypes.toList).any (Tryz.prog.wideKeysFrom ·))) = true := by kernel_rfl
theorem machineNil_fact18 : (Rows.machineNilSpec.vars.all (Tryz.prog.varReadable ·)) = true := by kernel_rfl
theorem machineNil_fact19 : (Tryz.f3.resultTypes.all (fun t => Tryz.prog.readableRec t && decide (t < Tryz.prog.types.size))) = true := by kernel_rfl
theorem machineNil_fact20 : ((Rows.machineNilRow.ifacesOut == Tryz.f3.resultTypes.toList.any (Tryz.prog.ifacesRec ·))) = true := by kernel_rfl
theorem machineNil_fact21 : ((Rows.machineNilRow.loopsOut == Tryz.f3.resultTypes.toList.any (Tryz.prog.loopsFrom ·))) = true := by kernel_rfl
theorem machineNil_fact22 : ((Rows.machineNilRow.plainKeys == Tryz.prog.plainKeys)) = true := by kernel_rfl
theorem machineNil_fact23 : (Rows.machineNilRow.shortTexts.isNone) = true := by kernel_rfl
theorem machineNil_fact24 : (Tryz.prog.stopsHeard) = true := by kernel_rfl
theorem machineNil_fact25 : (Tryz.prog.mayEnter) = true := by kernel_rfl
theorem machineNil_fact26 : ((Rows.machineNilRow.lifted == Tryz.prog.liftsFinal)) = true := by kernel_rfl
theorem machineNil_fact27 : ((Tryz.prog.make == some Rows.machineNilRow.make)) = true := by kernel_rfl
theorem machineNil_fact28 : ((Rows.machineNilRow.kinds == (if Rows.machineNilRow.domain.isEmpty then [] else Tryz.f3.params.toList.map fun t => match Tryz.prog.underlying t with | some (.int k) => some k | _ => none))) = true := by kernel_rfl
theorem machineNil_fact29 : ((Rows.machineNilRow.pinned == Rows.machineNilRow.pinnedBy)) = true := by kernel_rfl
theorem machineNil_fact30 : ((Rows.machineNilRow.veiled == (Tryz.f3.params.toList ++ Rows.machineNilSpec.plain.varTypes Tryz.prog ++ Tryz.f3.resultTypes.toList).any (Tryz.prog.veiledRec ·))) = true := by kernel_rfl
theorem machineNil_fact31 : (Rows.machineNilRow.veiledFits Tryz.prog Tryz.f3.params.toList (Tryz.f3.params.toList ++ Rows.machineNilSpec.plain.varTypes Tryz.prog ++ Tryz.f3.resultTypes.toList)) = true := by kernel_rfl
theorem and_mk {a b : Bool} (ha : a = true) (hb : b = true) : (a && b) = true := by rw [ha, hb]; rfl
set_option maxRecDepth 100000 in
theorem machineNil_joined : joinedFacts Tryz.prog 3 Tryz.f3 Rows.machineNilSpec Rows.machineNilRow = true := (and_mk (and_mk (and_mk (and_mk (and_mk (and_mk (and_mk (and_mk (and_mk (and_mk (and_mk (and_mk (and_mk (and_mk (and_mk (and_mk (and_mk (and_mk (and_mk (and_mk (and_mk (and_mk (and_mk (and_mk (and_mk (and_mk (and_mk (and_mk (and_mk (and_mk (and_mk machineNil_fact0 machineNil_fact1) machineNil_fact2) machineNil_fact3) machineNil_fact4) machineNil_fact5) machineNil_fact6) machineNil_fact7) machineNil_fact8) machineNil_fact9) machineNil_fact10) machineNil_fact11) machineNil_fact12) machineNil_fact13) machineNil_fact14) machineNil_fact15) machineNil_fact16) machineNil_fact17) machineNil_fact18) machineNil_fact19) machineNil_fact20) machineNil_fact21) machineNil_fact22) machineNil_fact23) machineNil_fact24) machineNil_fact25) machineNil_fact26) machineNil_fact27) machineNil_fact28) machineNil_fact29) machineNil_fact30) machineNil_fact31)
end Go.Proofs.YtofiafmbiedjnaaGreatDoor
