/- The environment that a program gives. -/
import Derived.Test.YtcfbpicdpgnilaaGreatDoorDetCode
set_option autoImplicit false
namespace Go.Det

/-- A tree of what a function gives. -/
def Tr.tab {α : Type} : Nat → (Nat → Option α) → Tr α
  | 0, _ => .nil
  | d + 1, f => .node (f 0) (Tr.tab d fun k => f (Nat.add (Nat.mul 2 k) 1)) (Tr.tab d fun k => f (Nat.add (Nat.mul 2 k) 2))

theorem Tr.get_tab {α : Type} : ∀ (d : Nat) (f : Nat → Option α) (n : Nat) (a : α), (Tr.tab d f).get n = some a → f n = some a := by
  intro d
  induction d with
  | zero => intro f n a h; cases h
  | succ d ih =>
    intro f n a h
    cases n with
    | zero => exact h
    | succ m =>
      simp only [Tr.tab, Tr.get] at h
      have hb : Nat.beq (Nat.mod m 2) 0 = decide (m % 2 = 0) := by
        show Nat.beq (m % 2) 0 = _
        rw [Bool.eq_iff_iff, Nat.beq_eq]; simp
      rw [hb] at h
      by_cases e : m % 2 = 0
      · simp only [e, decide_true, cond_true] at h
        have := ih _ _ _ h
        have e2 : Nat.add (Nat.mul 2 (Nat.div m 2)) 1 = m + 1 := by
          show 2 * (m / 2) + 1 = m + 1
          omega
        rw [e2] at this
        exact this
      · simp only [e, decide_false, cond_false] at h
        have := ih _ _ _ h
        have e2 : Nat.add (Nat.mul 2 (Nat.div m 2)) 2 = m + 1 := by
          show 2 * (m / 2) + 2 = m + 1
          omega
        rw [e2] at this
        exact this

def memN (n : Nat) : List Nat → Bool
  | [] => false
  | m :: l => cond (Nat.beq n m) true (memN n l)

theorem memN_mem {n : Nat} : ∀ {l : List Nat}, memN n l = true → n ∈ l
  | [], h => by cases h
  | m :: l, h => by
    simp only [memN] at h
    cases hb : Nat.beq n m with
    | true => rw [Nat.eq_of_beq_eq_true hb]; simp
    | false => rw [hb] at h; exact List.mem_cons_of_mem _ (memN_mem h)

def mkTi (P : Program) (eqs : List TypeId) (t : TypeId) : Option TI :=
  match P.types[t]? with
  | none => none
  | some _ => match P.info? t, P.underlying t with
    | some x, some d => match x.zero with
      | some z => cond (plainV z && Nat.beq (cellsOf z).length x.size) (some { und := d, size := x.size, bytes := x.bytes, zero := z, eqOk := memN t eqs }) none
      | none => none
    | _, _ => none

def mkFn (P : Program) (f : FuncId) : Option Func :=
  match P.funcs[f]? with
  | some g => match g.body with
    | some _ => cond (g.name == "runtime.NumGoroutine") none (some g)
    | none => none
  | none => none

def extAt (exts : List (Nat × Ext)) (f : Nat) : Option Ext :=
  match exts with
  | [] => none
  | (g, x) :: l => cond (Nat.beq f g) (some x) (extAt l f)

theorem extAt_mem {f : Nat} {x : Ext} : ∀ {l : List (Nat × Ext)}, extAt l f = some x → (f, x) ∈ l
  | [], h => by cases h
  | (g, y) :: l, h => by
    simp only [extAt] at h
    cases hb : Nat.beq f g with
    | true =>
      rw [hb] at h
      simp only [cond_true, Option.some.injEq] at h
      rw [Nat.eq_of_beq_eq_true hb, h]; simp
    | false => rw [hb] at h; exact List.mem_cons_of_mem _ (extAt_mem h)

def envOf (P : Program) (eqs : List TypeId) (exts : List (Nat × Ext)) (lies : List (TypeId × Nat × TypeId)) : Env :=
  { ti := Tr.tab 12 (mkTi P eqs), fn := Tr.tab 12 (mkFn P), ext := Tr.tab 12 (extAt exts), lies := lies }

theorem mkTi_spec {P : Program} {eqs : List TypeId} {t : TypeId} {i : TI} (h : mkTi P eqs t = some i) :
    ∃ x, P.info? t = some x ∧ P.underlying t = some i.und ∧ x.size = i.size ∧ x.bytes = i.bytes ∧ x.zero = some i.zero ∧ plainV i.zero = true ∧ (cellsOf i.zero).length = i.size ∧ i.eqOk = memN t eqs := by
  unfold mkTi at h
  cases h0 : P.types[t]? with
  | none => rw [h0] at h; cases h
  | some _ =>
    rw [h0] at h
    simp only [] at h
    cases h1 : P.info? t with
    | none => rw [h1] at h; cases h
    | some x =>
      cases h2 : P.underlying t with
      | none => rw [h1, h2] at h; cases h
      | some d =>
        rw [h1, h2] at h
        simp only [] at h
        cases h3 : x.zero with
        | none => rw [h3] at h; cases h
        | some z =>
          rw [h3] at h
          simp only [] at h
          cases h4 : (plainV z && Nat.beq (cellsOf z).length x.size) with
          | false => rw [h4] at h; cases h
          | true =>
            rw [h4] at h
            simp only [cond_true, Option.some.injEq] at h
            subst h
            rw [Bool.and_eq_true] at h4
            exact ⟨x, rfl, rfl, rfl, rfl, h3, h4.1, Nat.eq_of_beq_eq_true h4.2, rfl⟩

theorem envOf_ok {P : Program} {eqs : List TypeId} {exts : List (Nat × Ext)} {lies : List (TypeId × Nat × TypeId)} (heqs : ∀ t ∈ eqs, P.stoodInHeld t = false ∧ P.eqGuardType P.depth t = false)
    (hexts : ∀ x ∈ exts, ∃ g, P.funcs[x.1]? = some g ∧ g.body.isNone = true ∧ (g.name == "runtime.NumGoroutine") = false ∧ Extern.findNext g = none ∧ Extern.find g = some (extSem x.2))
    (hlies : ∀ x ∈ lies, liesAt P P.depth x.1 1 x.2.1 x.2.2 1 = true) (hm : P.follows .mixedOrders = true) : EnvOK P (envOf P eqs exts lies) where
  und t i h := by obtain ⟨x, h1, h2, _⟩ := mkTi_spec (Tr.get_tab _ _ _ _ h); exact h2
  info t i h := by obtain ⟨x, h1, h2, h3, h4, h5, _⟩ := mkTi_spec (Tr.get_tab _ _ _ _ h); exact ⟨x, h1, h3, h4, h5⟩
  zero t i h := by obtain ⟨x, h1, h2, h3, h4, h5, h6, h7, _⟩ := mkTi_spec (Tr.get_tab _ _ _ _ h); exact ⟨h6, h7⟩
  eqOk t i h he := by
    obtain ⟨x, h1, h2, h3, h4, h5, h6, h7, h8⟩ := mkTi_spec (Tr.get_tab _ _ _ _ h)
    rw [h8] at he
    exact heqs t (memN_mem he)
  fn f g h := by
    have h := Tr.get_tab _ _ _ _ h
    unfold mkFn at h
    cases h0 : P.funcs[f]? with
    | none => rw [h0] at h; cases h
    | some k =>
      rw [h0] at h
      simp only [] at h
      cases h1 : k.body with
      | none => rw [h1] at h; cases h
      | some c =>
        rw [h1] at h
        simp only [] at h
        cases h2 : (k.name == "runtime.NumGoroutine") with
        | true => rw [h2] at h; cases h
        | false =>
          rw [h2] at h
          simp only [cond_false, Option.some.injEq] at h
          subst h
          exact ⟨rfl, by rw [h1]; rfl, h2⟩
  ext f x h := hexts _ (extAt_mem (Tr.get_tab _ _ _ _ h))
  lies e o u h := hlies _ h
  mixed := hm

/-- All outcomes are true. -/
def allTrue : Option (List RRes) → Bool
  | some l => l.all fun x => match x.v with | .bool b => b | _ => false
  | none => false

/-- **A law's call that comes to true by the interpreter comes to true by the model.** -/
theorem call_true {P : Program} {E : Env} (hE : EnvOK P E) {n : Nat} {f : FuncId} {args : List Value} (h : allTrue ((run E n).call f args st0) = true) (w : World) (q : Nat → Option Value) {args' : Array Value}
    (ha : VRL ⟨fun _ => none, q⟩ args args'.toList) :
    Calls P f args' w fun e w' => e = .returned (.bool true) ∧ (∀ B, B < w.heap.size → w'.heap[B]? = w.heap[B]?) ∧ w.heap.size ≤ w'.heap.size ∧ w'.os = w.os ∧ w'.output = w.output := by
  cases hl : (run E n).call f args st0 with
  | none => rw [hl] at h; cases h
  | some l =>
    rw [hl] at h
    refine (call_sound hE hl w q ha).mono ?_
    rintro e w' ⟨v', rfl, ⟨r, hr, μ', _, hv⟩, h1, h2, h3, h4⟩
    simp only [allTrue, List.all_eq_true] at h
    have := h r hr
    generalize r.v = rv at hv this
    cases hv with
    | bool b => simp only [] at this; rw [this]; exact ⟨rfl, h1, h2, h3, h4⟩
    | _ => cases this

end Go.Det
