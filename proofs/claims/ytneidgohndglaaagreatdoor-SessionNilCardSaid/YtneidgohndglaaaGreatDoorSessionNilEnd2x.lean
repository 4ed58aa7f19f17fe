/- rowan/rowanlaw23.SessionNil: an end of a call: by the kernel's run of the interpreter. Printed by wip/mklaw2.py. -/
import Derived.Test.YtneidgohndglaaaGreatDoorSessionNilEnds1
import Derived.KernelRfl
set_option autoImplicit false
namespace Go.Proofs.YtneidgohndglaaaGreatDoor
open Go Go.Det
theorem e2_run : endsAre ((stepF env (runTab env [] 100000)).call e2.f e2.args e2.st) e2.l = true := by kernel_rfl
theorem e2_ok : e2.OK Tryz.prog := ent_ok (T := []) env_ok trivial e2_run
end Go.Proofs.YtneidgohndglaaaGreatDoor
