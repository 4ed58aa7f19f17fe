/- rowan/rowanlaw20.MachineNil: an end of a call: by the kernel's run of the interpreter. Printed by wip/mklaw2.py. -/
import Derived.Test.YtofiafmbiedjnaaGreatDoorMachineNilEnds1
import Derived.KernelRfl
set_option autoImplicit false
namespace Go.Proofs.YtofiafmbiedjnaaGreatDoor
open Go Go.Det
theorem e7_run : endsAre ((stepF env (runTab env [] 100000)).call e7.f e7.args e7.st) e7.l = true := by kernel_rfl
theorem e7_ok : e7.OK Tryz.prog := ent_ok (T := []) env_ok trivial e7_run
end Go.Proofs.YtofiafmbiedjnaaGreatDoor
