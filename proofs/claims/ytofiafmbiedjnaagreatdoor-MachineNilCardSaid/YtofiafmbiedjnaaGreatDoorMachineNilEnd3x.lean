/- rowan/rowanlaw20.MachineNil: an end of a call: by the kernel's run of the interpreter. Printed by wip/mklaw2.py. -/
import Derived.Test.YtofiafmbiedjnaaGreatDoorMachineNilEnds0
import Derived.KernelRfl
set_option autoImplicit false
namespace Go.Proofs.YtofiafmbiedjnaaGreatDoor
open Go Go.Det
theorem e3_run : endsAre ((stepF env (runTab env [] 100000)).call e3.f e3.args e3.st) e3.l = true := by kernel_rfl
theorem e3_ok : e3.OK Tryz.prog := ent_ok (T := []) env_ok trivial e3_run
end Go.Proofs.YtofiafmbiedjnaaGreatDoor
