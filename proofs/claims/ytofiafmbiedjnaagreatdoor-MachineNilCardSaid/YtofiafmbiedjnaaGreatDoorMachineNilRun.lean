/- rowan/rowanlaw20.MachineNil: what the verified interpreter makes of the law's call. Printed by wip/mklaw2.py. -/
import Derived.Test.YtofiafmbiedjnaaGreatDoorMachineNilEnd1x
import Derived.Test.YtofiafmbiedjnaaGreatDoorMachineNilEnd2x
import Derived.Test.YtofiafmbiedjnaaGreatDoorMachineNilEnd3x
import Derived.Test.YtofiafmbiedjnaaGreatDoorMachineNilEnd4x
import Derived.Test.YtofiafmbiedjnaaGreatDoorMachineNilEnd5x
import Derived.Test.YtofiafmbiedjnaaGreatDoorMachineNilEnd6x
import Derived.Test.YtofiafmbiedjnaaGreatDoorMachineNilEnd7x
import Derived.Test.YtofiafmbiedjnaaGreatDoorMachineNilEnd8x
import Derived.Test.YtofiafmbiedjnaaGreatDoorDetRow
import Derived.KernelRfl
set_option autoImplicit false
namespace Go.Proofs.YtofiafmbiedjnaaGreatDoor
open Go Go.Det

/-- The interpreter's run of the law, the arguments never looked into, the ends of some calls at hand. -/
theorem run_true : allTrue ((runTab env [e1, e2, e3, e4, e5, e6, e7, e8] 100000).call 3 [.complex .f64 0 0, .chan (some 0)] st0) = true := by kernel_rfl

theorem law_calls (W : World) (n0 : Int) (v1 : Value) (h1 : v1.oneCell' = true ∧ ∀ b, v1 ≠ .bool b) :
    Calls Tryz.prog 3 #[.int .i64 n0, v1] W fun e w' => e = .returned (.bool true) ∧ (∀ B, B < W.heap.size → w'.heap[B]? = W.heap[B]?) ∧ W.heap.size ≤ w'.heap.size ∧ w'.os = W.os ∧ w'.output = W.output :=
  call_trueT (T := [e1, e2, e3, e4, e5, e6, e7, e8]) env_ok ⟨e1_ok, ⟨e2_ok, ⟨e3_ok, ⟨e4_ok, ⟨e5_ok, ⟨e6_ok, ⟨e7_ok, ⟨e8_ok, trivial⟩⟩⟩⟩⟩⟩⟩⟩ run_true W (fun i => [v1][i]?)
    (.cons (.high .f64 0 0 n0 (fun h => by cases h)) (.cons (.opq 0 v1 rfl h1.1 h1.2) .nil))
end Go.Proofs.YtofiafmbiedjnaaGreatDoor

