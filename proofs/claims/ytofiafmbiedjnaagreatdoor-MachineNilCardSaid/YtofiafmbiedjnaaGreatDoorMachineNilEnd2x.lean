/- rowan/rowanlaw20.MachineNil: an end of a call: by the kernel's run of the interpreter. Printed by wip/mklaw2.py. -/
import Derived.Test.YtofiafmbiedjnaaGreatDoorMachineNilEnds0
import Derived.KernelRfl
import Derived.Test.YtofiafmbiedjnaaGreatDoorMachineNilEnd0x
set_option autoImplicit false
namespace Go.Proofs.YtofiafmbiedjnaaGreatDoor
open Go Go.Det
theorem e2_run : endsAre ((stepF env (runTab env [e0] 100000)).call e2.f e2.args e2.st) e2.l = true := by kernel_rfl
theorem e2_ok : e2.OK Tryz.prog := ent_ok (T := [e0]) env_ok ⟨e0_ok, trivial⟩ e2_run
end Go.Proofs.YtofiafmbiedjnaaGreatDoor
