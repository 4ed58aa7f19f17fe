/- rowan/rowanlaw23.SessionNil: what the verified interpreter makes of the law's call. Printed by wip/mklaw2.py. -/
import Derived.Test.YtneidgohndglaaaGreatDoorSessionNilEnd0x
import Derived.Test.YtneidgohndglaaaGreatDoorSessionNilEnd1x
import Derived.Test.YtneidgohndglaaaGreatDoorSessionNilEnd2x
import Derived.Test.YtneidgohndglaaaGreatDoorSessionNilEnd3x
import Derived.Test.YtneidgohndglaaaGreatDoorDetRow
import Derived.KernelRfl
set_option autoImplicit false
namespace Go.Proofs.YtneidgohndglaaaGreatDoor
open Go Go.Det

/-- The interpreter's run of the law, the arguments never looked into, the ends of some calls at hand. -/
theorem run_true : allTrue ((runTab env [e0, e1, e2, e3] 100000).call 3 [.chan (some 0), .chan (some 1), .chan (some 2)] st0) = true := by kernel_rfl

theorem law_calls (W : World) (v0 : Value) (v1 : Value) (v2 : Value) (h0 : v0.oneCell' = true ∧ ∀ b, v0 ≠ .bool b) (h1 : v1.oneCell' = true ∧ ∀ b, v1 ≠ .bool b) (h2 : v2.oneCell' = true ∧ ∀ b, v2 ≠ .bool b) :
    Calls Tryz.prog 3 #[v0, v1, v2] W fun e w' => e = .returned (.bool true) ∧ (∀ B, B < W.heap.size → w'.heap[B]? = W.heap[B]?) ∧ W.heap.size ≤ w'.heap.size ∧ w'.os = W.os ∧ w'.output = W.output :=
  call_trueT (T := [e0, e1, e2, e3]) env_ok ⟨e0_ok, ⟨e1_ok, ⟨e2_ok, ⟨e3_ok, trivial⟩⟩⟩⟩ run_true W (fun i => [v0, v1, v2][i]?)
    (.cons (.opq 0 v0 rfl h0.1 h0.2) (.cons (.opq 1 v1 rfl h1.1 h1.2) (.cons (.opq 2 v2 rfl h2.1 h2.2) .nil)))
end Go.Proofs.YtneidgohndglaaaGreatDoor

