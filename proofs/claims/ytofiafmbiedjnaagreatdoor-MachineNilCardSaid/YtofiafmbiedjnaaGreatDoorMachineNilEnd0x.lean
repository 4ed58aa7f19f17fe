/- rowan/rowanlaw20.MachineNil: an end of a call: by the kernel's run of the interpreter. Printed by wip/mklaw2.py. -/
import Derived.Test.YtofiafmbiedjnaaGreatDoorMachineNilEnds0
import Derived.KernelRfl
set_option autoImplicit false
namespace Go.Proofs.YtofiafmbiedjnaaGreatDoor
open Go Go.Det
theorem e0_run : endsAre ((stepF env (runTab env [] 100000)).call e0.f e0.args e0.st) e0.l = true := by kernel_rfl
theorem e0_ok : e0.OK Tryz.prog := ent_ok (T := []) env_ok trivial e0_run
end Go.Proofs.YtofiafmbiedjnaaGreatDoor
