/- rowan/rowanlaw20.MachineNil: an end of a call: by the kernel's run of the interpreter. Printed by wip/mklaw2.py. -/
import Derived.Test.YtofiafmbiedjnaaGreatDoorMachineNilEnds1
import Derived.KernelRfl
set_option autoImplicit false
namespace Go.Proofs.YtofiafmbiedjnaaGreatDoor
open Go Go.Det
theorem e8_run : endsAre ((stepF env (runTab env [] 100000)).call e8.f e8.args e8.st) e8.l = true := by kernel_rfl
theorem e8_ok : e8.OK Tryz.prog := ent_ok (T := []) env_ok trivial e8_run
end Go.Proofs.YtofiafmbiedjnaaGreatDoor
