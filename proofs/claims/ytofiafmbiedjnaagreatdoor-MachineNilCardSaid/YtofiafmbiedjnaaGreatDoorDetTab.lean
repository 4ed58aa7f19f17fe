/- Calls whose ends are known: a long run in parts. -/
import Derived.Test.YtofiafmbiedjnaaGreatDoorDetFast
set_option autoImplicit false
namespace Go.Det
noncomputable section

/-! ### Short words for a state's text -/
namespace Lit
abbrev o {α : Type} : Tr α := .nil
abbrev l {α : Type} (x : α) : Tr α := .node (some x) .nil .nil
abbrev n {α : Type} (x : α) (a b : Tr α) : Tr α := .node (some x) a b
abbrev e {α : Type} (a b : Tr α) : Tr α := .node none a b
abbrev c (k : Nat) (t : Tr Value) (sz : Nat) (el : TypeId) (op fz : Bool) (cl : Nat) : AObj := .cells k t sz el op fz cl
abbrev d : AObj := .dead
end Lit

def runTab (E : Env) (T : List Ent) : Nat → Self
  | 0 => { code := fun _ _ _ _ _ _ _ => none, call := fun _ _ _ => none }
  | n + 1 => askT T (stepF E (runTab E T n))

variable {P : Program} {E : Env}

/-- A call's ends, said of the model. -/
def Ent.OK (P : Program) (e : Ent) : Prop := ∀ (μ : Ren) (w : World) (base : Nat) (args' : Array Value), HR μ e.st w.heap base → VRL μ e.args args'.toList →
    CallsIn Fence.wide 0 P e.f args' w fun x w' => ∃ v', x = .returned v' ∧ Ret μ e.st w base e.l v' w'

def EntsOK (P : Program) : List Ent → Prop
  | [] => True
  | e :: T => e.OK P ∧ EntsOK P T

theorem stEq_eq {a b : St} (h : stEq a b = true) : a = b := by
  unfold stEq at h
  rw [Bool.and_eq_true, Bool.and_eq_true] at h
  obtain ⟨h1, h2, h3⟩ := h
  cases a; cases b
  simp only [St.mk.injEq] at h1 h2 h3 ⊢
  exact ⟨trEq_eq (fun x y h => objEq_eq h) h3, Nat.eq_of_beq_eq_true h1, trEq_eq (fun x y h => listEq_eq (fun a b h => natBeq h) h) h2⟩

theorem findE_ok : ∀ {T : List Ent} {f : FuncId} {args : List Value} {st : St} {l : List RRes}, EntsOK P T → findE T f args st = some l → ∃ e : Ent, e.OK P ∧ f = e.f ∧ args = e.args ∧ st = e.st ∧ l = e.l
  | [], f, args, st, l, _, h => by cases h
  | e :: T, f, args, st, l, hT, h => by
    unfold findE at h
    cases h1 : Nat.beq f e.f with
    | false => rw [h1] at h; exact findE_ok hT.2 h
    | true =>
      rw [h1] at h
      simp only [] at h
      cases h2 : listEq (vEq 100) args e.args && stEq st e.st with
      | false => rw [h2] at h; exact findE_ok hT.2 h
      | true =>
        rw [h2] at h
        rw [Bool.and_eq_true] at h2
        exact ⟨e, hT.1, Nat.eq_of_beq_eq_true h1, listEq_eq (fun a b h => vEq_eq _ h) h2.1, stEq_eq h2.2, (Option.some.inj h).symm⟩

theorem askT_ok {T : List Ent} (hT : EntsOK P T) {S : Self} {n : Nat} (h : SelfOK P E S n) : SelfOK P E (askT T S) n := by
  refine ⟨?_, h.code, h.loop⟩
  intro f args st l hc μ w base args' hr ha
  have hc : (match findE T f args st with | some l => some l | none => S.call f args st) = some l := hc
  cases hf : findE T f args st with
  | none => rw [hf] at hc; exact h.call f args st l hc μ w base args' hr ha
  | some l' =>
    rw [hf] at hc
    simp only [Option.some.injEq] at hc
    subst hc
    obtain ⟨e, he, rfl, rfl, rfl, rfl⟩ := findE_ok hT hf
    exact he μ w base args' hr ha

theorem runTab_ok (hE : EnvOK P E) {T : List Ent} (hT : EntsOK P T) : ∀ n, SelfOK P E (runTab E T n) n
  | 0 => ⟨fun _ _ _ _ h => (by cases h), fun _ _ _ _ _ _ _ _ h => (by cases h), fun _ _ _ _ _ _ _ _ h => (by cases h)⟩
  | n + 1 => by
    have := stepA_ok hE (runTab_ok hE hT n)
    rw [← stepF_eq] at this
    exact askT_ok hT this

/-- Are these the ends? -/
def endsAre (x : Option (List RRes)) (l : List RRes) : Bool :=
  match x with
  | some y => listEq resEq y l
  | none => false

theorem endsAre_eq {x : Option (List RRes)} {l : List RRes} (h : endsAre x l = true) : x = some l := by
  cases x with
  | none => cases h
  | some y => rw [listEq_eq (fun a b h => resEq_eq h) h]

/-- An entry is what the run says, with earlier ones at hand. -/
theorem ent_ok (hE : EnvOK P E) {T : List Ent} (hT : EntsOK P T) {n : Nat} {e : Ent} (h : endsAre ((stepF E (runTab E T n)).call e.f e.args e.st) e.l = true) : e.OK P := by
  intro μ w base args' hr ha
  have hs := stepA_ok hE (runTab_ok hE hT n)
  rw [← stepF_eq] at hs
  exact hs.call _ _ _ _ (endsAre_eq h) μ w base args' hr ha

/-- **A law's call that comes to true in parts comes to true by the model.** -/
theorem call_trueT (hE : EnvOK P E) {T : List Ent} (hT : EntsOK P T) {n : Nat} {f : FuncId} {args : List Value} (h : allTrue ((runTab E T n).call f args st0) = true) (w : World) (q : Nat → Option Value) {args' : Array Value}
    (ha : VRL ⟨fun _ => none, q⟩ args args'.toList) :
    Calls P f args' w fun e w' => e = .returned (.bool true) ∧ (∀ B, B < w.heap.size → w'.heap[B]? = w.heap[B]?) ∧ w.heap.size ≤ w'.heap.size ∧ w'.os = w.os ∧ w'.output = w.output := by
  cases hl : (runTab E T n).call f args st0 with
  | none => rw [hl] at h; cases h
  | some l =>
    rw [hl] at h
    have := (runTab_ok hE hT n).call f args st0 l hl _ w w.heap.size args' (HR.start w q) ha
    refine callsIn_wide.1 (this.mono ?_)
    rintro e w' ⟨v', rfl, r, hr, μ', h1, h2, h3⟩
    simp only [allTrue, List.all_eq_true] at h
    have := h r hr
    generalize r.v = rv at h1 this
    cases h1 with
    | bool b => simp only [] at this; rw [this]; exact ⟨rfl, h3.frame, h3.size, h3.os, h3.output⟩
    | _ => cases this

end
end Go.Det
