/- rowan/rowanlaw20.MachineNil: an end of a call: by the kernel's run of the interpreter. Printed by wip/mklaw2.py. -/
import Derived.Test.YtofiafmbiedjnaaGreatDoorMachineNilEnds1
import Derived.KernelRfl
set_option autoImplicit false
namespace Go.Proofs.YtofiafmbiedjnaaGreatDoor
open Go Go.Det
theorem e6_run : endsAre ((stepF env (runTab env [] 100000)).call e6.f e6.args e6.st) e6.l = true := by kernel_rfl
theorem e6_ok : e6.OK Tryz.prog := ent_ok (T := []) env_ok trivial e6_run
end Go.Proofs.YtofiafmbiedjnaaGreatDoor
