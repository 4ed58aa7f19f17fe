/- rowan/rowanlaw20.MachineNil holds for every input: whatever it is called with, it returns true and leaves its arguments as they were. No condition beyond the card's own. -/
import Derived.Test.YtofiafmbiedjnaaGreatDoorMachineNilRun
import Derived.Test.YtofiafmbiedjnaaGreatDoorMachineNilFacts
import Derived.Test.YtofiafmbiedjnaaGreatDoorRows
import Derived.Test.YtofiafmbiedjnaaGreatDoorTie
import Derived.Test.YtofiafmbiedjnaaGreatDoorCards
import Derived.SevenTiedAt
import Derived.LaidMore
import Derived.LaidLaws
import Derived.LaidHandle
import Derived.JoinedOf
import Derived.Handed
import Derived.OpenShut
import Derived.ChangeSlices
import Derived.ChangeMaps5
import Derived.Carry
import Derived.Lib.SmallJoins
import Derived.KernelRfl
set_option autoImplicit false
namespace Go.Proofs.YtofiafmbiedjnaaGreatDoor
open Go Go.Det Go.ChangeShapes Go.WideShapes Go.RowKit

theorem own : ownKnob Tryz.prog.godebug = none := by kernel_rfl
theorem laidOut : laidOutB Tryz.prog = true := by kernel_rfl

/-! ### The row -/
theorem door_met (os : Os) (args : Array Value) : laidMetH Tryz.prog Rows.machineNilRow.laid ((World.doorLaid Tryz.prog 400 os).forCall (fun _ _ => 0) ⟨#[], args, []⟩).memory :=
  laidMetH_of_parts3 (fuel := 8) (laidMet_of_run' 8 (by kernel_rfl) (by kernel_rfl)) (by kernel_rfl) (by kernel_rfl)

theorem int_ok (k : IntKind) (n : Int) : (Value.int k n).oneCell' = true ∧ ∀ b, (Value.int k n) ≠ .bool b := ⟨rfl, fun b h => by cases h⟩
theorem string_ok (b : ByteArray) : (Value.string b).oneCell' = true ∧ ∀ c, (Value.string b) ≠ .bool c := ⟨rfl, fun c h => by cases h⟩
theorem slice_ok (a : Option Addr) (l c : Nat) : (Value.slice a l c).oneCell' = true ∧ ∀ b, (Value.slice a l c) ≠ .bool b := ⟨rfl, fun b h => by cases h⟩

theorem reads_all : (Tryz.f3.params.toList.all fun t => Tryz.prog.readableRec t && decide (t < Tryz.prog.types.size)) = true := by kernel_rfl
theorem reads (t : TypeId) (ht : t ∈ Tryz.f3.params.toList) : Tryz.prog.readableRec t = true ∧ t < Tryz.prog.types.size := by
  have := List.all_eq_true.1 reads_all t ht
  rw [Bool.and_eq_true, decide_eq_true_eq] at this
  exact this

set_option maxRecDepth 100000 in
theorem lifted (os : Os) (started : os.Started) (H : Type) (enc : TypeId × Value → H) :
    ReturnsInHanded {} Tryz.checked os 3 .any (fun w args => (Rows.machineNilSpec.pre enc Tryz.prog Tryz.f3 [] false w args ∧ laidMetH Tryz.prog Rows.machineNilRow.laid w) ∧ sizedMet enc Tryz.prog Tryz.f3 (OpenSpec.ofChange Rows.machineNilSpec) false w args)
      (Rows.machineNilSpec.post enc Tryz.prog Tryz.f3 false true false false) := by
  refine returnsInHanded_of_change_and (C := Tryz.checked) (X := fun w _ => laidMetH Tryz.prog Rows.machineNilRow.laid w) (fun _ _ _ hh h => h.of_heap hh) own started (by kernel_rfl) Tryz.func3
    (ChangeSpec.witness_shaped (enc := enc) (C := Tryz.checked) (os := os) (X := fun w _ => laidMetH Tryz.prog Rows.machineNilRow.laid w) false (World.doorLaid Tryz.prog 400 os) #[.int .i64 0, .int .i64 0] 8 rfl
      (World.shaped_of_RefB (by kernel_rfl) (by kernel_rfl)) (by kernel_rfl) (by kernel_rfl) (by kernel_rfl) (door_met os _)) ?_
  intro W base args ds gs before hval0 hW _ _ _ _
  have hval : ∀ (j : Nat) t v, Tryz.f3.params[j]? = some t → args[j]? = some v → Value.okWide Tryz.prog W .any base t v := hval0
  have hW' := hW
  obtain ⟨p, q, hA0, hV, rfl, hfz, hnd⟩ := hW
  have hA : DataW.TrodAll enc Tryz.prog W 0 (fun _ => true) true Tryz.f3.params.toList args.toList ds p := hA0
  rw [Tryz.params3] at hA hval
  obtain ⟨v0, v1, d0, d1, p0, p1, rfl, rfl, rfl, -, -⟩ := trodAll_two hA
  obtain ⟨n0, rfl⟩ := okWide_int Tryz.underlying3 (hval 0 3 v0 rfl rfl)
  obtain ⟨n1, rfl⟩ := okWide_int Tryz.underlying3 (hval 1 3 v1 rfl rfl)
  refine (law_calls W n0 (.int .i64 n1) (int_ok .i64 n1)).mono fun e W' ⟨he, hf, _, ho, hp'⟩ => ?_
  subst he
  exact ⟨_, rfl, law_post laidOut rfl (by kernel_rfl) Tryz.underlying4 ⟨rfl, rfl, rfl⟩ reads hW' hf ho hp'⟩

set_option maxRecDepth 100000 in
theorem machineNil_row : Rows.MachineNilSaid :=
  OpenClaim.holds_of_wide 3 Tryz.f3 rfl rfl rfl rfl rfl rfl rfl ⟨rfl, rfl, rfl, rfl, rfl⟩ rfl rfl rfl rfl rfl (by kernel_rfl) Tryz.func3 machineNil_joined
    (of_decide_eq_true (by kernel_rfl)) (by unfold Func.isWrapper; first | (rw [if_pos (by decide +kernel)]; kernel_rfl) | (rw [if_neg (by decide +kernel)]; exact ⟨rfl, rfl⟩))
    (fun os started H enc _ => lifted os started H enc)

/-! ### The card -/
set_option maxRecDepth 100000 in
theorem noGo : (Tryz.prog.funcs.toList.any Func.goes) = false := by kernel_rfl

set_option maxRecDepth 100000 in
theorem goes_no (f : FuncId) : Tryz.prog.goes f = false := by
  have h : ∀ g ∈ Tryz.prog.funcs.toList, g.goes = false := by
    intro g hg
    have := List.any_eq_false.1 noGo g hg
    simpa using this
  have h1 : ∀ k : Nat, (Tryz.prog.funcs[k]?).any Func.goes = false := by
    intro k
    cases hk : Tryz.prog.funcs[k]? with
    | none => rfl
    | some g => exact h g (Array.mem_toList_iff.2 (Array.mem_of_getElem? hk))
  have h2 : Tryz.prog.funcs.any Func.goes = false := by rw [← Array.any_toList]; exact noGo
  unfold Program.goes
  rw [h2, Bool.and_false, Bool.or_false, List.any_eq_false]
  intro k _
  rw [h1 k]
  simp

theorem goesBy_of {P : Program} {c : OpenClaim} (hs : c.start = .entering) (h : ∀ f, P.goes f = false) : false = c.goesBy P := by
  unfold OpenClaim.goesBy Program.goesAt Program.goesFrom
  rw [hs]
  cases P.funcNamed c.func with
  | none => rfl
  | some f => simp [h f]

theorem goesBy_no : false = Rows.machineNilRow.goesBy Tryz.prog := goesBy_of rfl goes_no

set_option maxRecDepth 100000 in
/-- rowan/rowanlaw20.MachineNil: whatever the input, the law's call returns true. -/
theorem machineNil_holds : Rows.MachineNilCardSaid :=
  Claim7.holds_tied_plain_at .later [] [.data, .data, .data] true (true, "ec1beb590ff238cd9ce54b96b2847b437d538f1fd1bb0932ba63d668fcdd635a") true
    machineNil_row (fun _ h => by cases h) (by kernel_rfl) (fun _ h => by cases h) machineNil_row_tie rfl ⟨rfl, rfl⟩ (by kernel_rfl) rfl
    (fun f fn hf hfn => by
      obtain rfl : f = 3 := Option.some.inj ((show Tryz.prog.funcNamed "rowan/rowanlaw20.MachineNil" = some 3 by kernel_rfl).symm.trans hf) |>.symm
      obtain rfl : fn = Tryz.f3 := (Option.some.inj (Tryz.func3.symm.trans hfn)).symm
      exact ⟨by kernel_rfl, fun j t ht => by
        rw [Tryz.params3] at ht
        have hm : t ∈ [3, 3] := by simpa using Array.mem_of_getElem? ht
        have hall : ([3, 3].all fun u => !Tryz.prog.wantsStandIn u) = true := by kernel_rfl
        exact (show Tryz.prog.wantsStandIn t = false by simpa using List.all_eq_true.1 hall t hm)⟩)
    goesBy_no

#print axioms machineNil_holds
end Go.Proofs.YtofiafmbiedjnaaGreatDoor
