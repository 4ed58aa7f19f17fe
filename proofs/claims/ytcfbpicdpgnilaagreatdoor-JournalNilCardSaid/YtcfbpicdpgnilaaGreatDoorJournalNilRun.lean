/- rowanlaw28.JournalNil: what the verified interpreter makes of the law's call. -/
import Derived.Test.YtcfbpicdpgnilaaGreatDoorDetRow
import Derived.Test.YtcfbpicdpgnilaaGreatDoorRows
import Derived.KernelRfl
set_option autoImplicit false
namespace Go.Proofs.YtcfbpicdpgnilaaGreatDoor
open Go Go.Det

theorem mixed : Tryz.prog.follows .mixedOrders = true := by kernel_rfl

noncomputable def env : Env := envOf Tryz.prog [365] [(328, .same), (401, .cmp)] [(341, (0, 342)), (342, (0, 342)), (350, (0, 342)), (351, (0, 342))]

theorem ext328 : ∃ g, Tryz.prog.funcs[328]? = some g ∧ g.body.isNone = true ∧ (g.name == "runtime.NumGoroutine") = false ∧ Extern.findNext g = none ∧ Extern.find g = some (extSem .same) :=
  ⟨Tryz.f328, Tryz.func328, by kernel_rfl, by kernel_rfl, by kernel_rfl, by kernel_rfl⟩
theorem ext401 : ∃ g, Tryz.prog.funcs[401]? = some g ∧ g.body.isNone = true ∧ (g.name == "runtime.NumGoroutine") = false ∧ Extern.findNext g = none ∧ Extern.find g = some (extSem .cmp) :=
  ⟨Tryz.f401, Tryz.func401, by kernel_rfl, by kernel_rfl, by kernel_rfl, by kernel_rfl⟩

theorem lies_all : ([(341, (0, 342)), (342, (0, 342)), (350, (0, 342)), (351, (0, 342))] : List (TypeId × Nat × TypeId)).all (fun x => liesAt Tryz.prog Tryz.prog.depth x.1 1 x.2.1 x.2.2 1) = true := by kernel_rfl
theorem eq365 : Tryz.prog.stoodInHeld 365 = false ∧ Tryz.prog.eqGuardType Tryz.prog.depth 365 = false := ⟨by kernel_rfl, by kernel_rfl⟩

theorem env_ok : EnvOK Tryz.prog env :=
  envOf_ok (fun t ht => by
      have e : t = 365 := by simpa using ht
      rw [e]; exact eq365)
    (fun x hx => by
      simp only [List.mem_cons, List.not_mem_nil, or_false] at hx
      rcases hx with rfl | rfl
      · exact ext328
      · exact ext401)
    (fun x hx => List.all_eq_true.1 lies_all x hx) mixed

/-- The interpreter's run of the law, the edit's parts never looked into. -/
theorem run_true : allTrue ((run env 100000).call 3 [.agg #[.chan (some 0), .chan (some 1), .chan (some 2), .chan (some 3)]] st0) = true := by kernel_rfl

theorem law_calls (W : World) (v0 v1 v2 v3 : Value) (h0 : v0.oneCell' = true ∧ ∀ b, v0 ≠ .bool b) (h1 : v1.oneCell' = true ∧ ∀ b, v1 ≠ .bool b) (h2 : v2.oneCell' = true ∧ ∀ b, v2 ≠ .bool b) (h3 : v3.oneCell' = true ∧ ∀ b, v3 ≠ .bool b) :
    Calls Tryz.prog 3 #[.agg #[v0, v1, v2, v3]] W fun e w' => e = .returned (.bool true) ∧ (∀ B, B < W.heap.size → w'.heap[B]? = W.heap[B]?) ∧ W.heap.size ≤ w'.heap.size ∧ w'.os = W.os ∧ w'.output = W.output :=
  call_true env_ok run_true W (fun i => [v0, v1, v2, v3][i]?)
    (.cons (.agg _ _ (.cons (.opq 0 v0 rfl h0.1 h0.2) (.cons (.opq 1 v1 rfl h1.1 h1.2) (.cons (.opq 2 v2 rfl h2.1 h2.2) (.cons (.opq 3 v3 rfl h3.1 h3.2) .nil))))) .nil)
end Go.Proofs.YtcfbpicdpgnilaaGreatDoor
