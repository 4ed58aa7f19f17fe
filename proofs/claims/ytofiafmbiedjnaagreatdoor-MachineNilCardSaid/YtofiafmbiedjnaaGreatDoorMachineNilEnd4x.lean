/- rowan/rowanlaw20.MachineNil: an end of a call: by the kernel's run of the interpreter. Printed by wip/mklaw2.py. -/
import Derived.Test.YtofiafmbiedjnaaGreatDoorMachineNilEnds0
import Derived.KernelRfl
set_option autoImplicit false
namespace Go.Proofs.YtofiafmbiedjnaaGreatDoor
open Go Go.Det
theorem e4_run : endsAre ((stepF env (runTab env [] 100000)).call e4.f e4.args e4.st) e4.l = true := by kernel_rfl
theorem e4_ok : e4.OK Tryz.prog := ent_ok (T := []) env_ok trivial e4_run
end Go.Proofs.YtofiafmbiedjnaaGreatDoor
