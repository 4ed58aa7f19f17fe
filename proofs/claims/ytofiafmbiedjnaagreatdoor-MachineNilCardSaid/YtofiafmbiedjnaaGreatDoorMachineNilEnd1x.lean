/- rowan/rowanlaw20.MachineNil: an end of a call: by the kernel's run of the interpreter. Printed by wip/mklaw2.py. -/
import Derived.Test.YtofiafmbiedjnaaGreatDoorMachineNilEnds0
import Derived.KernelRfl
set_option autoImplicit false
namespace Go.Proofs.YtofiafmbiedjnaaGreatDoor
open Go Go.Det
theorem e1_run : endsAre ((stepF env (runTab env [] 100000)).call e1.f e1.args e1.st) e1.l = true := by kernel_rfl
theorem e1_ok : e1.OK Tryz.prog := ent_ok (T := []) env_ok trivial e1_run
end Go.Proofs.YtofiafmbiedjnaaGreatDoor
