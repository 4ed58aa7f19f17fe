/- The closed facts of the row, one by one: printed by wip/mkseat.py. -/
import Derived.Test.YtneidgohndglaaaGreatDoorRows
import Derived.JoinedOf
import Derived.KernelRfl
set_option autoImplicit false
namespace Go.Proofs.YtneidgohndglaaaGreatDoor
open Go
theorem sessionNil_fact0 : (Rows.sessionNilRow.wf (OpenSpec.ofChange Rows.sessionNilSpec)) = true := by kernel_rfl
theorem sessionNil_fact1 : (laidOutB Tryz.prog) = true := by kernel_rfl
theorem sessionNil_fact2 : (mapsRowed Tryz.prog) = true := by kernel_rfl
theorem sessionNil_fact3 : (Tryz.f3.params.all (Tryz.prog.readableRec ·)) = true := by kernel_rfl
theorem sessionNil_fact4 : (namedTie Tryz.prog Rows.sessionNilRow.named Rows.sessionNilSpec.vars) = true := by kernel_rfl
theorem sessionNil_fact5 : ((Rows.sessionNilRow.stops == [])) = true := by kernel_rfl
theorem sessionNil_fact6 : ((Tryz.prog.stops == [])) = true := by kernel_rfl
theorem sessionNil_fact7 : ((Rows.sessionNilRow.knobs == [])) = true := by kernel_rfl
theorem sessionNil_fact8 : ((Tryz.prog.stopKnobs == [])) = true := by kernel_rfl
theorem sessionNil_fact9 : ((Rows.sessionNilRow.inPlace == Tryz.prog.inPlace 3)) = true := by kernel_rfl
theorem sessionNil_fact10 : ((Rows.sessionNilRow.unfollowed == Tryz.prog.unfollowed 3)) = true := by kernel_rfl
theorem sessionNil_fact11 : ((Rows.sessionNilRow.recurses == Tryz.prog.recurses 3)) = true := by kernel_rfl
theorem sessionNil_fact12 : ((Rows.sessionNilRow.named == Tryz.prog.varsNamed 3)) = true := by kernel_rfl
theorem sessionNil_fact13 : ((Rows.sessionNilRow.maps == (Tryz.f3.params.toList ++ Rows.sessionNilSpec.plain.varTypes Tryz.prog).any (Tryz.prog.mapsRec ·))) = true := by kernel_rfl
theorem sessionNil_fact14 : ((Rows.sessionNilRow.ifaces == (Tryz.f3.params.toList ++ Rows.sessionNilSpec.plain.varTypes Tryz.prog).any (Tryz.prog.ifacesRec ·))) = true := by kernel_rfl
theorem sessionNil_fact15 : ((Rows.sessionNilRow.mapsOut == Tryz.prog.mapsAmong Tryz.f3.resultTypes.toList)) = true := by kernel_rfl
theorem sessionNil_fact16 : ((Rows.sessionNilRow.loops == (Tryz.f3.params.toList ++ Rows.sessionNilSpec.plain.varTypes Tryz.prog).any (Tryz.prog.loopsFrom ·))) = true := by kernel_rfl
theorem sessionNil_fact17 : ((Rows.sessionNilRow.wideKeys == (Tryz.f3.params.toList ++ Rows.sessionNilSpec.plain.varTypes Tryz.prog ++ Tryz.f3.resultTypes.toList).any (Tryz.prog.wideKeysFrom ·))) = true := by kernel_rfl
theorem sessionNil_fact18 : (Rows.sessionNilSpec.vars.all (Tryz.prog.varReadable ·)) = true := by kernel_rfl
theorem sessionNil_fact19 : (Tryz.f3.resultTypes.all (fun t => Tryz.prog.readableRec t && decide (t < Tryz.prog.types.size))) = true := by kernel_rfl
theorem sessionNil_fact20 : ((Rows.sessionNilRow.ifacesOut == Tryz.f3.resultTypes.toList.any (Tryz.prog.ifacesRec ·))) = true := by kernel_rfl
theorem sessionNil_fact21 : ((Rows.sessionNilRow.loopsOut == Tryz.f3.resultTypes.toList.any (Tryz.prog.loopsFrom ·))) = true := by kernel_rfl
theorem sessionNil_fact22 : ((Rows.sessionNilRow.plainKeys == Tryz.prog.plainKeys)) = true := by kernel_rfl
theorem sessionNil_fact23 : (Rows.sessionNilRow.shortTexts.isNone) = true := by kernel_rfl
theorem sessionNil_fact24 : (Tryz.prog.stopsHeard) = true := by kernel_rfl
theorem sessionNil_fact25 : (Tryz.prog.mayEnter) = true := by kernel_rfl
theorem sessionNil_fact26 : ((Rows.sessionNilRow.lifted == Tryz.prog.liftsFinal)) = true := by kernel_rfl
theorem sessionNil_fact27 : ((Tryz.prog.make == some Rows.sessionNilRow.make)) = true := by kernel_rfl
theorem sessionNil_fact28 : ((Rows.sessionNilRow.kinds == (if Rows.sessionNilRow.domain.isEmpty then [] else Tryz.f3.params.toList.map fun t => match Tryz.prog.underlying t with | some (.int k) => some k | _ => none))) = true := by kernel_rfl
theorem sessionNil_fact29 : ((Rows.sessionNilRow.pinned == Rows.sessionNilRow.pinnedBy)) = true := by kernel_rfl
theorem sessionNil_fact30 : ((Rows.sessionNilRow.veiled == (Tryz.f3.params.toList ++ Rows.sessionNilSpec.plain.varTypes Tryz.prog ++ Tryz.f3.resultTypes.toList).any (Tryz.prog.veiledRec ·))) = true := by kernel_rfl
theorem sessionNil_fact31 : (Rows.sessionNilRow.veiledFits Tryz.prog Tryz.f3.params.toList (Tryz.f3.params.toList ++ Rows.sessionNilSpec.plain.varTypes Tryz.prog ++ Tryz.f3.resultTypes.toList)) = true := by kernel_rfl
theorem and_mk {a b : Bool} (ha : a = true) (hb : b = true) : (a && b) = true := by rw [ha, hb]; rfl
set_option maxRecDepth 100000 in
theorem sessionNil_joined : joinedFacts Tryz.prog 3 Tryz.f3 Rows.sessionNilSpec Rows.sessionNilRow = true := (and_mk (and_mk (and_mk (and_mk (and_mk (and_mk (and_mk (and_mk (and_mk (and_mk (and_mk (and_mk (and_mk (and_mk (and_mk (and_mk (and_mk (and_mk (and_mk (and_mk (and_mk (and_mk (and_mk (and_mk (and_mk (and_mk (and_mk (and_mk (and_mk (and_mk (and_mk sessionNil_fact0 sessionNil_fact1) sessionNil_fact2) sessionNil_fact3) sessionNil_fact4) sessionNil_fact5) sessionNil_fact6) sessionNil_fact7) sessionNil_fact8) sessionNil_fact9) sessionNil_fact10) sessionNil_fact11) sessionNil_fact12) sessionNil_fact13) sessionNil_fact14) sessionNil_fact15) sessionNil_fact16) sessionNil_fact17) sessionNil_fact18) sessionNil_fact19) sessionNil_fact20) sessionNil_fact21) sessionNil_fact22) sessionNil_fact23) sessionNil_fact24) sessionNil_fact25) sessionNil_fact26) sessionNil_fact27) sessionNil_fact28) sessionNil_fact29) sessionNil_fact30) sessionNil_fact31)
end Go.Proofs.YtneidgohndglaaaGreatDoor
