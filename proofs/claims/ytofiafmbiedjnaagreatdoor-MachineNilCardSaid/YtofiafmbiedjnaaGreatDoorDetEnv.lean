/- The environment that a program gives. -/
import Derived.Test.YtofiafmbiedjnaaGreatDoorDetCode
set_option autoImplicit false
namespace Go.Det

/-- A tree of what a function gives. -/
noncomputable def Tr.tab {α : Type} : Nat → (Nat → Option α) → Tr α
  | 0, _ => .nil
  | d + 1, f => .node (f 0) (Tr.tab d fun k => f (Nat.add (Nat.mul 2 k) 1)) (Tr.tab d fun k => f (Nat.add (Nat.mul 2 k) 2))

theorem Tr.get_tab {α : Type} : ∀ (d : Nat) (f : Nat → Option α) (n : Nat) (a : α), (Tr.tab d f).get n = some a → f n = some a := by
  intro d
  induction d with
  | zero => intro f n a h; cases h
  | succ d ih =>
    intro f n a h
    cases n with
    | zero => exact h
    | succ m =>
      simp only [Tr.tab, Tr.get_succ] at h
      by_cases e : m % 2 = 0
      · rw [if_pos e] at h
        have := ih _ _ _ h
        have e2 : Nat.add (Nat.mul 2 (m / 2)) 1 = m + 1 := by
          show 2 * (m / 2) + 1 = m + 1
          omega
        rw [e2] at this
        exact this
      · rw [if_neg e] at h
        have := ih _ _ _ h
        have e2 : Nat.add (Nat.mul 2 (m / 2)) 2 = m + 1 := by
          show 2 * (m / 2) + 2 = m + 1
          omega
        rw [e2] at this
        exact this

def memN (n : Nat) : List Nat → Bool
  | [] => false
  | m :: l => cond (Nat.beq n m) true (memN n l)

theorem memN_mem {n : Nat} : ∀ {l : List Nat}, memN n l = true → n ∈ l
  | [], h => by cases h
  | m :: l, h => by
    simp only [memN] at h
    cases hb : Nat.beq n m with
    | true => rw [Nat.eq_of_beq_eq_true hb]; simp
    | false => rw [hb] at h; exact List.mem_cons_of_mem _ (memN_mem h)

noncomputable def mkTi (P : Program) (eqs : List TypeId) (t : TypeId) : Option TI :=
  match P.types[t]? with
  | none => none
  | some _ => match P.info? t, P.underlying t with
    | some x, some d => match x.zero with
      | some z => cond (plainV z && Nat.beq (cellsOf z).length x.size) (some { und := d, size := x.size, bytes := x.bytes, zero := z, eqOk := memN t eqs }) none
      | none => none
    | _, _ => none

def mkFn (P : Program) (f : FuncId) : Option Func :=
  match P.funcs[f]? with
  | some g => match g.body with
    | some _ => cond (g.name == "runtime.NumGoroutine") none (some g)
    | none => none
  | none => none

def extAt (exts : List (Nat × Ext)) (f : Nat) : Option Ext :=
  match exts with
  | [] => none
  | (g, x) :: l => cond (Nat.beq f g) (some x) (extAt l f)

theorem extAt_mem {f : Nat} {x : Ext} : ∀ {l : List (Nat × Ext)}, extAt l f = some x → (f, x) ∈ l
  | [], h => by cases h
  | (g, y) :: l, h => by
    simp only [extAt] at h
    cases hb : Nat.beq f g with
    | true =>
      rw [hb] at h
      simp only [cond_true, Option.some.injEq] at h
      rw [Nat.eq_of_beq_eq_true hb, h]; simp
    | false => rw [hb] at h; exact List.mem_cons_of_mem _ (extAt_mem h)

noncomputable def envOf (P : Program) (eqs : List TypeId) (exts : List (Nat × Ext)) (lies : List (TypeId × Nat × TypeId)) (forks : List TypeId := []) (merges : Option (List FuncId) := none) : Env :=
  { ti := Tr.tab 12 (mkTi P eqs), fn := Tr.tab 12 (mkFn P), ext := Tr.tab 12 (extAt exts), lies := lies, forks := forks, merges := merges }

theorem mkTi_spec {P : Program} {eqs : List TypeId} {t : TypeId} {i : TI} (h : mkTi P eqs t = some i) :
    ∃ x, P.info? t = some x ∧ P.underlying t = some i.und ∧ x.size = i.size ∧ x.bytes = i.bytes ∧ x.zero = some i.zero ∧ plainV i.zero = true ∧ (cellsOf i.zero).length = i.size ∧ i.eqOk = memN t eqs := by
  unfold mkTi at h
  cases h0 : P.types[t]? with
  | none => rw [h0] at h; cases h
  | some _ =>
    rw [h0] at h
    simp only [] at h
    cases h1 : P.info? t with
    | none => rw [h1] at h; cases h
    | some x =>
      cases h2 : P.underlying t with
      | none => rw [h1, h2] at h; cases h
      | some d =>
        rw [h1, h2] at h
        simp only [] at h
        cases h3 : x.zero with
        | none => rw [h3] at h; cases h
        | some z =>
          rw [h3] at h
          simp only [] at h
          cases h4 : (plainV z && Nat.beq (cellsOf z).length x.size) with
          | false => rw [h4] at h; cases h
          | true =>
            rw [h4] at h
            simp only [cond_true, Option.some.injEq] at h
            subst h
            rw [Bool.and_eq_true] at h4
            exact ⟨x, rfl, rfl, rfl, rfl, h3, h4.1, Nat.eq_of_beq_eq_true h4.2, rfl⟩

theorem envOf_ok {P : Program} {eqs : List TypeId} {exts : List (Nat × Ext)} {lies : List (TypeId × Nat × TypeId)} {forks : List TypeId} {merges : Option (List FuncId)} (heqs : ∀ t ∈ eqs, P.stoodInHeld t = false ∧ P.eqGuardType P.depth t = false)
    (hexts : ∀ x ∈ exts, ∃ g, P.funcs[x.1]? = some g ∧ g.body.isNone = true ∧ (g.name == "runtime.NumGoroutine") = false ∧ Extern.findNext g = none ∧ Extern.find g = some (extSem x.2))
    (hlies : ∀ x ∈ lies, liesAt P P.depth x.1 1 x.2.1 x.2.2 1 = true) (hm : P.follows .mixedOrders = true) : EnvOK P (envOf P eqs exts lies forks merges) where
  und t i h := by obtain ⟨x, h1, h2, _⟩ := mkTi_spec (Tr.get_tab _ _ _ _ h); exact h2
  info t i h := by obtain ⟨x, h1, h2, h3, h4, h5, _⟩ := mkTi_spec (Tr.get_tab _ _ _ _ h); exact ⟨x, h1, h3, h4, h5⟩
  zero t i h := by obtain ⟨x, h1, h2, h3, h4, h5, h6, h7, _⟩ := mkTi_spec (Tr.get_tab _ _ _ _ h); exact ⟨h6, h7⟩
  eqOk t i h he := by
    obtain ⟨x, h1, h2, h3, h4, h5, h6, h7, h8⟩ := mkTi_spec (Tr.get_tab _ _ _ _ h)
    rw [h8] at he
    exact heqs t (memN_mem he)
  fn f g h := by
    have h := Tr.get_tab _ _ _ _ h
    unfold mkFn at h
    cases h0 : P.funcs[f]? with
    | none => rw [h0] at h; cases h
    | some k =>
      rw [h0] at h
      simp only [] at h
      cases h1 : k.body with
      | none => rw [h1] at h; cases h
      | some c =>
        rw [h1] at h
        simp only [] at h
        cases h2 : (k.name == "runtime.NumGoroutine") with
        | true => rw [h2] at h; cases h
        | false =>
          rw [h2] at h
          simp only [cond_false, Option.some.injEq] at h
          subst h
          exact ⟨rfl, by rw [h1]; rfl, h2⟩
  ext f x h := hexts _ (extAt_mem (Tr.get_tab _ _ _ _ h))
  lies e o u h := hlies _ h
  mixed := hm

/-! ### The environment, its parts named one by one: nothing is looked up in a long list -/
/-- A type: its number, what the program says of it, and what lies beneath. -/
structure TEnt where
  t : TypeId
  x : TypeInfo
  u : TypeId
  y : TypeInfo

noncomputable def TEnt.ti (eqs : List TypeId) (e : TEnt) : TI := { und := e.y.desc, size := e.x.size, bytes := e.x.bytes, zero := e.x.zero.getD (.tuple #[]), eqOk := memN e.t eqs }

/-- Is what lies beneath what the description says? -/
noncomputable def TEnt.fits (e : TEnt) : Bool :=
  (match e.x.zero with | some z => plainV z && Nat.beq (cellsOf z).length e.x.size | none => false) &&
  (match e.x.desc with | .named _ v => Nat.beq v e.u | _ => Nat.beq e.t e.u)

def FEnt.ok (f : Nat × Func) : Bool := f.2.body.isSome && !(f.2.name == "runtime.NumGoroutine")

noncomputable def envL (tis : List TEnt) (eqs : List TypeId) (fns : List (Nat × Func)) (exts : List (Nat × Ext)) (lies : List (TypeId × Nat × TypeId)) (forks : List TypeId) (merges : Option (List FuncId)) (gcs : List FuncId := []) : Env :=
  { ti := Tr.ofList (tis.map fun e => (e.t, e.ti eqs)), fn := Tr.ofList fns, ext := Tr.ofList exts, lies := lies, forks := forks, merges := merges, gcs := gcs }

/-- The entries' facts, one by one. -/
def TEnts (P : Program) : List TEnt → Prop
  | [] => True
  | e :: l => (P.types[e.t]? = some e.x ∧ P.types[e.u]? = some e.y) ∧ TEnts P l

theorem TEnts.mem {P : Program} : ∀ {l : List TEnt}, TEnts P l → ∀ e ∈ l, P.types[e.t]? = some e.x ∧ P.types[e.u]? = some e.y
  | [], _, e, h => by cases h
  | x :: l, hl, e, h => by
    rcases List.mem_cons.1 h with rfl | h
    · exact hl.1
    · exact TEnts.mem hl.2 e h

def FEnts (P : Program) : List (Nat × Func) → Prop
  | [] => True
  | e :: l => P.funcs[e.1]? = some e.2 ∧ FEnts P l

theorem FEnts.mem {P : Program} : ∀ {l : List (Nat × Func)}, FEnts P l → ∀ e ∈ l, P.funcs[e.1]? = some e.2
  | [], _, e, h => by cases h
  | x :: l, hl, e, h => by
    rcases List.mem_cons.1 h with rfl | h
    · exact hl.1
    · exact FEnts.mem hl.2 e h

theorem TEnts.append {P : Program} : ∀ {a b : List TEnt}, TEnts P a → TEnts P b → TEnts P (a ++ b)
  | [], _, _, h => h
  | _ :: _, _, h, g => ⟨h.1, TEnts.append h.2 g⟩

theorem FEnts.append {P : Program} : ∀ {a b : List (Nat × Func)}, FEnts P a → FEnts P b → FEnts P (a ++ b)
  | [], _, _, h => h
  | _ :: _, _, h, g => ⟨h.1, FEnts.append h.2 g⟩

theorem all_append {α : Type} {p : α → Bool} {a b : List α} (h : a.all p = true) (g : b.all p = true) : (a ++ b).all p = true := by rw [List.all_append, h, g]; rfl

theorem info_of {P : Program} {t : TypeId} {x : TypeInfo} (h : P.types[t]? = some x) : P.info? t = some x := by
  show (if t < P.types.size then P.types[t]? else Made.infoAt P.toTables Made.depth t) = some x
  have : t < P.types.size := (Array.getElem?_eq_some_iff.1 h).1
  rw [if_pos this]; exact h

theorem und_of {P : Program} {e : TEnt} (g1 : P.types[e.t]? = some e.x) (g2 : P.types[e.u]? = some e.y) (g4 : (match e.x.desc with | .named _ v => Nat.beq v e.u | _ => Nat.beq e.t e.u) = true) : P.underlying e.t = some e.y.desc := by
  have hi := info_of g1
  have hu := info_of g2
  have same : Nat.beq e.t e.u = true → e.x = e.y := by
    intro h
    have := Nat.eq_of_beq_eq_true h
    rw [this, g2] at g1
    exact (Option.some.inj g1).symm
  unfold Program.underlying
  rw [hi]
  split
  · rename_i i n u a1 a2 a3 a4 a5 a6 a7 a8 a9 heq
    have hd : e.x.desc = .named n u := by rw [Option.some.inj heq]
    rw [hd] at g4
    simp only [] at g4
    rw [Nat.eq_of_beq_eq_true g4, hu]
    rfl
  · rename_i i hne heq
    have e1 : e.x = i := Option.some.inj heq
    have : Nat.beq e.t e.u = true := by
      cases hd : e.x.desc with
      | named n u =>
        exfalso
        subst e1
        cases hx : e.x with
        | mk desc str size bytes hp al fa z cm ms =>
          rw [hx] at hd
          simp only [] at hd
          subst hd
          exact hne n u str size bytes hp al fa z cm ms (by rw [hx])
      | _ => rw [hd] at g4; exact g4
    rw [← e1, same this]
  · rename_i heq; cases heq

theorem envL_ok {P : Program} {tis : List TEnt} {eqs : List TypeId} {fns : List (Nat × Func)} {exts : List (Nat × Ext)} {lies : List (TypeId × Nat × TypeId)} {forks : List TypeId} {merges : Option (List FuncId)} {gcs : List FuncId}
    (ht : TEnts P tis) (ht2 : tis.all TEnt.fits = true) (hf : FEnts P fns) (hf2 : fns.all FEnt.ok = true)
    (heqs : ∀ t ∈ eqs, P.stoodInHeld t = false ∧ P.eqGuardType P.depth t = false)
    (hexts : ∀ x ∈ exts, ∃ g, P.funcs[x.1]? = some g ∧ g.body.isNone = true ∧ (g.name == "runtime.NumGoroutine") = false ∧ Extern.findNext g = none ∧ Extern.find g = some (extSem x.2))
    (hlies : ∀ x ∈ lies, liesAt P P.depth x.1 1 x.2.1 x.2.2 1 = true) (hm : P.follows .mixedOrders = true) : EnvOK P (envL tis eqs fns exts lies forks merges gcs) := by
  have tm : ∀ t i, (envL tis eqs fns exts lies forks merges gcs).ti.get t = some i → ∃ e ∈ tis, e.t = t ∧ i = e.ti eqs ∧ P.info? t = some e.x ∧ P.underlying t = some e.y.desc ∧
      ∃ z, e.x.zero = some z ∧ plainV z = true ∧ (cellsOf z).length = e.x.size := by
    intro t i h
    have h := ofList_mem _ h
    rw [List.mem_map] at h
    obtain ⟨e, he, h⟩ := h
    simp only [Prod.mk.injEq] at h
    obtain ⟨rfl, rfl⟩ := h
    obtain ⟨g1, g2⟩ := ht.mem e he
    have g3 := List.all_eq_true.1 ht2 e he
    unfold TEnt.fits at g3
    rw [Bool.and_eq_true] at g3
    obtain ⟨g3, g4⟩ := g3
    refine ⟨e, he, rfl, rfl, info_of g1, und_of g1 g2 g4, ?_⟩
    cases hz : e.x.zero with
    | none => rw [hz] at g3; cases g3
    | some z =>
      rw [hz] at g3
      simp only [Bool.and_eq_true] at g3
      exact ⟨z, rfl, g3.1, Nat.eq_of_beq_eq_true g3.2⟩
  refine ⟨?_, ?_, ?_, ?_, ?_, ?_, fun e o u h => hlies _ h, hm⟩
  · intro t i h
    obtain ⟨e, he, rfl, rfl, h1, h2, z, h3, h4, h5⟩ := tm t i h
    exact h2
  · intro t i h
    obtain ⟨e, he, rfl, rfl, h1, h2, z, h3, h4, h5⟩ := tm t i h
    exact ⟨e.x, h1, rfl, rfl, by simp [TEnt.ti, h3]⟩
  · intro t i h
    obtain ⟨e, he, rfl, rfl, h1, h2, z, h3, h4, h5⟩ := tm t i h
    simp only [TEnt.ti, h3, Option.getD_some]
    exact ⟨h4, h5⟩
  · intro t i h hq
    obtain ⟨e, he, rfl, rfl, h1, h2, z, h3, h4, h5⟩ := tm t i h
    exact heqs _ (memN_mem hq)
  · intro f g h
    have h := ofList_mem _ h
    have h1 := hf.mem _ h
    have h2 := List.all_eq_true.1 hf2 _ h
    unfold FEnt.ok at h2
    rw [Bool.and_eq_true, Bool.not_eq_true'] at h2
    exact ⟨h1, h2.1, h2.2⟩
  · intro f x h
    exact hexts _ (ofList_mem _ h)

/-- All outcomes are true. -/
def allTrue : Option (List RRes) → Bool
  | some l => l.all fun x => match x.v with | .bool b => b | _ => false
  | none => false

/-- **A law's call that comes to true by the interpreter comes to true by the model.** -/
theorem call_true {P : Program} {E : Env} (hE : EnvOK P E) {n : Nat} {f : FuncId} {args : List Value} (h : allTrue ((run E n).call f args st0) = true) (w : World) (q : Nat → Option Value) {args' : Array Value}
    (ha : VRL ⟨fun _ => none, q⟩ args args'.toList) :
    Calls P f args' w fun e w' => e = .returned (.bool true) ∧ (∀ B, B < w.heap.size → w'.heap[B]? = w.heap[B]?) ∧ w.heap.size ≤ w'.heap.size ∧ w'.os = w.os ∧ w'.output = w.output := by
  cases hl : (run E n).call f args st0 with
  | none => rw [hl] at h; cases h
  | some l =>
    rw [hl] at h
    refine (call_sound hE hl w q ha).mono ?_
    rintro e w' ⟨v', rfl, ⟨r, hr, μ', _, hv⟩, h1, h2, h3, h4⟩
    simp only [allTrue, List.all_eq_true] at h
    have := h r hr
    generalize r.v = rv at hv this
    cases hv with
    | bool b => simp only [] at this; rw [this]; exact ⟨rfl, h1, h2, h3, h4⟩
    | _ => cases this

end Go.Det
