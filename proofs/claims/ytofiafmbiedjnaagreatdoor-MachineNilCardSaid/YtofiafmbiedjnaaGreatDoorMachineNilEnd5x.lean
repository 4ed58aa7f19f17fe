/- rowan/rowanlaw20.MachineNil: an end of a call: by the kernel's run of the interpreter. Printed by wip/mklaw2.py. -/
import Derived.Test.YtofiafmbiedjnaaGreatDoorMachineNilEnds0
import Derived.KernelRfl
set_option autoImplicit false
namespace Go.Proofs.YtofiafmbiedjnaaGreatDoor
open Go Go.Det
theorem e5_run : endsAre ((stepF env (runTab env [] 100000)).call e5.f e5.args e5.st) e5.l = true := by kernel_rfl
theorem e5_ok : e5.OK Tryz.prog := ent_ok (T := []) env_ok trivial e5_run
end Go.Proofs.YtofiafmbiedjnaaGreatDoor
