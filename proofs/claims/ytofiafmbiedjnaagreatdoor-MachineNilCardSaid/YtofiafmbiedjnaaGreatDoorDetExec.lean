/- One operation: what it hangs on, of which kind it is, and that the model does the same. -/
import Derived.Test.YtofiafmbiedjnaaGreatDoorDetFork
import Derived.Test.YtofiafmbiedjnaaGreatDoorDetDraw
set_option autoImplicit false
namespace Go.Det

/-! ### What it hangs on -/
theorem mem_tmpsOf {t : Tmp} : ∀ {l : List Operand}, t ∈ tmpsOf l ↔ Operand.tmp t ∈ l
  | [] => by simp [tmpsOf]
  | x :: r => by
    cases x with
    | tmp u => simp [tmpsOf, mem_tmpsOf]
    | _ => simp [tmpsOf, mem_tmpsOf]

section congr
variable {E : Env} {ρ ρ' : Nat → Value} {st : St}

theorem opd_congr {x : Operand} (h : ∀ t, x = .tmp t → ρ t = ρ' t) : opd ρ x = opd ρ' x := by
  cases x with
  | tmp t => simp only [opd, h t rfl]
  | _ => rfl

theorem opds_congr : ∀ {l : List Operand}, (∀ t, Operand.tmp t ∈ l → ρ t = ρ' t) → opds ρ l = opds ρ' l
  | [], _ => rfl
  | x :: r, h => by
    simp only [opds]
    rw [opd_congr (x := x) (fun t e => h t (by rw [e]; simp)), opds_congr (l := r) (fun t e => h t (by simp [e]))]

theorem partsV_congr : ∀ {l : List (Nat × Operand)}, (∀ t, Operand.tmp t ∈ l.map (·.2) → ρ t = ρ' t) → partsV ρ l = partsV ρ' l
  | [], _ => rfl
  | (i, x) :: r, h => by
    simp only [partsV]
    rw [opd_congr (x := x) (fun t e => h t (by rw [e]; simp)), partsV_congr (l := r) (fun t e => h t (by simp only [List.map_cons, List.mem_cons]; exact .inr e))]

theorem opt_congr {x : Option Operand} (h : ∀ t, x = some (.tmp t) → ρ t = ρ' t) : opt ρ x = opt ρ' x := by
  cases x with
  | none => rfl
  | some o => simp only [opt]; rw [opd_congr (x := o) (fun t e => h t (by rw [e]))]

theorem execA_congr {op : Op} (h : ∀ t, Operand.tmp t ∈ op.operands.toList → ρ t = ρ' t) : execA E ρ st op = execA E ρ' st op := by
  cases op with
  | move x => simp only [execA]; rw [opd_congr (x := x) (fun t e => h t (by simp [Op.operands, e]))]
  | assign x => simp only [execA]; rw [opd_congr (x := x) (fun t e => h t (by simp [Op.operands, e]))]
  | pick c a b =>
    simp only [execA]
    rw [opd_congr (x := c) (fun t e => h t (by simp [Op.operands, e])), opd_congr (x := a) (fun t e => h t (by simp [Op.operands, e])), opd_congr (x := b) (fun t e => h t (by simp [Op.operands, e]))]
  | box t x => simp only [execA]; rw [opd_congr (x := x) (fun t e => h t (by simp [Op.operands, e]))]
  | build t ps => simp only [execA]; rw [partsV_congr (l := ps.toList) (fun t e => h t (by simpa [Op.operands] using e))]
  | buildSlice t n ps => simp only [execA]; rw [partsV_congr (l := ps.toList) (fun t e => h t (by simpa [Op.operands] using e))]
  | insert t m k v =>
    simp only [execA]
    rw [opd_congr (x := m) (fun t e => h t (by simp [Op.operands, e])), opd_congr (x := k) (fun t e => h t (by simp [Op.operands, e])), opd_congr (x := v) (fun t e => h t (by simp [Op.operands, e]))]
  | load t x => simp only [execA]; rw [opd_congr (x := x) (fun t e => h t (by simp [Op.operands, e]))]
  | store t x y =>
    simp only [execA]
    rw [opd_congr (x := x) (fun t e => h t (by simp [Op.operands, e])), opd_congr (x := y) (fun t e => h t (by simp [Op.operands, e]))]
  | nilCheck x => simp only [execA]; rw [opd_congr (x := x) (fun t e => h t (by simp [Op.operands, e]))]
  | binOp op t x y u =>
    simp only [execA]
    rw [opd_congr (x := x) (fun t e => h t (by simp [Op.operands, e])), opd_congr (x := y) (fun t e => h t (by simp [Op.operands, e]))]
  | unOp op t x => simp only [execA]; rw [opd_congr (x := x) (fun t e => h t (by simp [Op.operands, e]))]
  | convert s d x => simp only [execA]; rw [opd_congr (x := x) (fun t e => h t (by simp [Op.operands, e]))]
  | makeFunc fn a b =>
    simp only [execA]
    rw [opds_congr (l := a.toList) (fun t e => h t (by simp [Op.operands] at e ⊢; exact .inl e)), opds_congr (l := b.toList) (fun t e => h t (by simp [Op.operands] at e ⊢; exact .inr e))]
  | makeMap t r => simp only [execA]; rw [opt_congr (x := r) (fun t e => h t (by simp [Op.operands, e]))]
  | makeSlice t x y =>
    simp only [execA]
    rw [opd_congr (x := x) (fun t e => h t (by simp [Op.operands, e])), opd_congr (x := y) (fun t e => h t (by simp [Op.operands, e]))]
  | slice t x l hh m =>
    simp only [execA]
    rw [opd_congr (x := x) (fun t e => h t (by simp [Op.operands, e])), opt_congr (x := l) (fun t e => h t (by simp [Op.operands, e])), opt_congr (x := hh) (fun t e => h t (by simp [Op.operands, e])),
      opt_congr (x := m) (fun t e => h t (by simp [Op.operands, e]))]
  | fieldAddr t x f => simp only [execA]; rw [opd_congr (x := x) (fun t e => h t (by simp [Op.operands, e]))]
  | field t x f => simp only [execA]; rw [opd_congr (x := x) (fun t e => h t (by simp [Op.operands, e]))]
  | indexAddr t x y =>
    simp only [execA]
    rw [opd_congr (x := x) (fun t e => h t (by simp [Op.operands, e])), opd_congr (x := y) (fun t e => h t (by simp [Op.operands, e]))]
  | index t x y =>
    simp only [execA]
    rw [opd_congr (x := x) (fun t e => h t (by simp [Op.operands, e])), opd_congr (x := y) (fun t e => h t (by simp [Op.operands, e]))]
  | lookup t x y ok =>
    simp only [execA]
    rw [opd_congr (x := x) (fun t e => h t (by simp [Op.operands, e])), opd_congr (x := y) (fun t e => h t (by simp [Op.operands, e]))]
  | mapUpdate t m k v =>
    simp only [execA]
    rw [opd_congr (x := m) (fun t e => h t (by simp [Op.operands, e])), opd_congr (x := k) (fun t e => h t (by simp [Op.operands, e])), opd_congr (x := v) (fun t e => h t (by simp [Op.operands, e]))]
  | mapEntry t x y =>
    simp only [execA]
    rw [opd_congr (x := x) (fun t e => h t (by simp [Op.operands, e])), opd_congr (x := y) (fun t e => h t (by simp [Op.operands, e]))]
  | entryStore t m k v =>
    simp only [execA]
    rw [opd_congr (x := m) (fun t e => h t (by simp [Op.operands, e])), opd_congr (x := k) (fun t e => h t (by simp [Op.operands, e])), opd_congr (x := v) (fun t e => h t (by simp [Op.operands, e]))]
  | range t x => simp only [execA]; rw [opd_congr (x := x) (fun t e => h t (by simp [Op.operands, e]))]
  | entry x => simp only [execA]; rw [opd_congr (x := x) (fun t e => h t (by simp [Op.operands, e]))]
  | extract x i => simp only [execA]; rw [opd_congr (x := x) (fun t e => h t (by simp [Op.operands, e]))]
  | call c =>
    simp only [execA]
    rw [opds_congr (l := c.args.toList) (fun t e => h t (by simp [Op.operands, Call.operands] at e ⊢; exact .inr e))]
    cases hc : c.callee with
    | value f => simp only []; rw [opd_congr (x := f) (fun t e => h t (by simp [Op.operands, Call.operands, hc, e]))]
    | _ => rfl
  | _ => rfl

theorem forkA_congr {op : Op} (h : ∀ t, Operand.tmp t ∈ op.operands.toList → ρ t = ρ' t) : forkA E ρ st op = forkA E ρ' st op := by
  cases op with
  | call c =>
    simp only [forkA]
    rw [opds_congr (l := c.args.toList) (fun t e => h t (by simp [Op.operands, Call.operands] at e ⊢; exact .inr e))]
    cases hc : c.callee with
    | value f => simp only []; rw [opd_congr (x := f) (fun t e => h t (by simp [Op.operands, Call.operands, hc, e]))]
    | builtin b => cases b <;> rfl
    | invoke r m => rfl
  | _ => rfl

theorem wantedA_congr {o : Oper} {ops : Array Oper} (h : ∀ t ∈ readsOf ops.toList o, ρ t = ρ' t) : wantedA o ops ρ = wantedA o ops ρ' := by
  unfold wantedA
  cases hg : o.guard with
  | none => rfl
  | some q =>
    obtain ⟨j, want⟩ := q
    simp only []
    cases hj : ops.toList[j]? with
    | none => rfl
    | some p =>
      simp only []
      cases hd : p.dst with
      | none => rfl
      | some d =>
        simp only []
        rw [h d (by simp [readsOf, hg, hj, hd])]

end congr

/-! ### Of which kind it is -/
theorem one_res {st st' : St} {v : Option Value} {res : ORes} (h : one st v = some (res, st')) : ∃ x, v = some x ∧ res = .val x ∧ st' = st := by
  cases v with
  | none => cases h
  | some x => simp only [one, Option.some.injEq, Prod.mk.injEq] at h; exact ⟨x, rfl, h.1.symm, h.2.symm⟩

theorem two_res {st' : St} {v : Option (Value × St)} {res : ORes} (h : two v = some (res, st')) : ∃ x, v = some (x, st') ∧ res = .val x := by
  cases v with
  | none => cases h
  | some x => obtain ⟨x, s⟩ := x; simp only [two, Option.some.injEq, Prod.mk.injEq] at h; exact ⟨x, by rw [h.2], h.1.symm⟩

theorem unit_res {st' : St} {v : Option St} {res : ORes} (h : unit v = some (res, st')) : v = some st' ∧ res = .val undefV := by
  cases v with
  | none => cases h
  | some x => simp only [unit, Option.some.injEq, Prod.mk.injEq] at h; exact ⟨by rw [h.2], h.1.symm⟩

/-- A value, and all is as it was, in whatever state. -/
def Idle (E : Env) (ρ : Nat → Value) (op : Op) (res : ORes) : Prop := ∃ v, res = .val v ∧ ∀ st2, execA E ρ st2 op = some (res, st2)

theorem idle_one {E : Env} {ρ : Nat → Value} {op : Op} {st st' : St} {res : ORes} {v : Option Value} (h : execA E ρ st op = some (res, st')) (he : ∀ s, execA E ρ s op = one s v) : st' = st ∧ Idle E ρ op res := by
  rw [he] at h
  obtain ⟨x, hv, rfl, rfl⟩ := one_res h
  exact ⟨rfl, x, rfl, fun s => by rw [he, hv]; rfl⟩

theorem pure_kind {E : Env} {ρ : Nat → Value} {op : Op} {st st' : St} {res : ORes} (hk : kindOf E op = .pure) (h : execA E ρ st op = some (res, st')) : st' = st ∧ Idle E ρ op res := by
  cases op with
  | move x => exact idle_one h (fun s => rfl)
  | assign x => exact idle_one h (fun s => rfl)
  | pick c a b =>
    simp only [execA] at h
    split at h
    · rename_i t x y h1 h2 h3
      simp only [Option.some.injEq, Prod.mk.injEq] at h
      obtain ⟨rfl, rfl⟩ := h
      exact ⟨rfl, _, rfl, fun s => by simp only [execA, h1, h2, h3]⟩
    · cases h
  | build t ps =>
    simp only [execA] at h
    cases hp : partsV ρ ps.toList with
    | none => rw [hp] at h; cases h
    | some l =>
      rw [hp] at h
      obtain ⟨x, hv, rfl, rfl⟩ := one_res h
      exact ⟨rfl, x, rfl, fun s => by simp only [execA, hp, hv]; rfl⟩
  | fieldAddr t x f =>
    simp only [execA] at h
    cases hp : opd ρ x with
    | none => rw [hp] at h; cases h
    | some l =>
      rw [hp] at h
      obtain ⟨x, hv, rfl, rfl⟩ := one_res h
      exact ⟨rfl, x, rfl, fun s => by simp only [execA, hp, hv]; rfl⟩
  | field t x f =>
    simp only [execA] at h
    cases hp : opd ρ x with
    | none => rw [hp] at h; cases h
    | some l =>
      rw [hp] at h
      obtain ⟨x, hv, rfl, rfl⟩ := one_res h
      exact ⟨rfl, x, rfl, fun s => by simp only [execA, hp, hv]; rfl⟩
  | unOp op t x =>
    simp only [execA] at h
    cases hp : opd ρ x with
    | none => rw [hp] at h; cases h
    | some l =>
      rw [hp] at h
      obtain ⟨x, hv, rfl, rfl⟩ := one_res h
      exact ⟨rfl, x, rfl, fun s => by simp only [execA, hp, hv]; rfl⟩
  | makeFunc fn a b =>
    simp only [execA] at h
    split at h
    · rename_i x y h1 h2
      cases fn with
      | func f =>
        simp only [Option.some.injEq, Prod.mk.injEq] at h
        obtain ⟨rfl, rfl⟩ := h
        exact ⟨rfl, _, rfl, fun s => by simp only [execA, h1, h2]⟩
      | via t p g q =>
        simp only [Option.some.injEq, Prod.mk.injEq] at h
        obtain ⟨rfl, rfl⟩ := h
        exact ⟨rfl, _, rfl, fun s => by simp only [execA, h1, h2]⟩
      | _ => cases h
    · cases h
  | extract x i =>
    simp only [execA] at h
    split at h
    · rename_i vs h1
      obtain ⟨x, hv, rfl, rfl⟩ := one_res h
      exact ⟨rfl, x, rfl, fun s => by simp only [execA, h1, hv]; rfl⟩
    · cases h
  | nilCheck x =>
    simp only [execA] at h
    split at h
    · rename_i a h1
      simp only [Option.some.injEq, Prod.mk.injEq] at h
      obtain ⟨rfl, rfl⟩ := h
      exact ⟨rfl, _, rfl, fun s => by simp only [execA, h1]⟩
    · rename_i a h1
      simp only [Option.some.injEq, Prod.mk.injEq] at h
      obtain ⟨rfl, rfl⟩ := h
      exact ⟨rfl, _, rfl, fun s => by simp only [execA, h1]⟩
    · rename_i a h1
      simp only [Option.some.injEq, Prod.mk.injEq] at h
      obtain ⟨rfl, rfl⟩ := h
      exact ⟨rfl, _, rfl, fun s => by simp only [execA, h1]⟩
    · cases h
  | binOp op t x y u =>
    simp only [execA] at h
    split at h
    · rename_i a b h1 h2
      obtain ⟨x, hv, rfl, rfl⟩ := one_res h
      exact ⟨rfl, x, rfl, fun s => by simp only [execA, h1, h2, hv]; rfl⟩
    · cases h
  | indexAddr t x y =>
    simp only [execA] at h
    split at h
    · rename_i a b h1 h2
      obtain ⟨x, hv, rfl, rfl⟩ := one_res h
      exact ⟨rfl, x, rfl, fun s => by simp only [execA, h1, h2, hv]; rfl⟩
    · cases h
  | index t x y =>
    simp only [execA] at h
    split at h
    · rename_i a b h1 h2
      obtain ⟨x, hv, rfl, rfl⟩ := one_res h
      exact ⟨rfl, x, rfl, fun s => by simp only [execA, h1, h2, hv]; rfl⟩
    · cases h
  | convert s d x =>
    simp only [execA] at h
    simp only [kindOf] at hk
    cases hp : opd ρ x with
    | none => rw [hp] at h; cases h
    | some v0 =>
      rw [hp] at h
      simp only [] at h
      obtain ⟨v, hv, rfl⟩ := two_res h
      have key : st' = st ∧ ∀ s2, convertA E s2 s d v0 = some (v, s2) := conv_pure hk hv
      exact ⟨key.1, v, rfl, fun s2 => by simp only [execA, hp, key.2 s2]; rfl⟩
  | call c =>
    simp only [execA] at h
    have hk0 : kindCall E c = .pure := hk
    simp only [kindOf, kindCall] at hk
    cases ha : opds ρ c.args.toList with
    | none => rw [ha] at h; cases h
    | some args =>
      rw [ha] at h
      simp only [] at h
      cases hc : c.callee with
      | value f => rw [hc] at hk; cases hk
      | invoke r m => rw [hc] at hk; cases hk
      | builtin b =>
        rw [hc] at h hk
        simp only [] at h
        obtain ⟨v, hv, rfl⟩ := two_res h
        have key : st' = st ∧ ∀ s2, builtinA E s2 b c.argTypes args = some (v, s2) := by
          cases b with
          | max =>
            simp only [builtinA] at hv ⊢
            cases hm : foldMM true args with
            | none => rw [hm] at hv; cases hv
            | some u => rw [hm] at hv; simp only [Option.map_some, Option.some.injEq, Prod.mk.injEq] at hv; exact ⟨hv.2.symm, fun s2 => by simp [hv.1]⟩
          | min =>
            simp only [builtinA] at hv ⊢
            cases hm : foldMM false args with
            | none => rw [hm] at hv; cases hv
            | some u => rw [hm] at hv; simp only [Option.map_some, Option.some.injEq, Prod.mk.injEq] at hv; exact ⟨hv.2.symm, fun s2 => by simp [hv.1]⟩
          | len =>
            simp only [builtinA] at hv ⊢
            cases hm : lenOp E st c.argTypes args with
            | none => rw [hm] at hv; cases hv
            | some u =>
              rw [hm] at hv
              simp only [Option.map_some, Option.some.injEq, Prod.mk.injEq] at hv
              refine ⟨hv.2.symm, fun s2 => ?_⟩
              have : lenOp E s2 c.argTypes args = some u := len_pure hk0 hc hm
              simp [this, hv.1]
          | _ => cases hk
        exact ⟨key.1, v, rfl, fun s2 => by simp only [execA, ha, hc, key.2 s2]; rfl⟩
  | _ => cases hk

theorem reads_kind {E : Env} {ρ : Nat → Value} {op : Op} {st st' : St} {res : ORes} (hk : kindOf E op = .reads) (h : execA E ρ st op = some (res, st')) : st' = st ∧ ∃ v, res = .val v := by
  cases op with
  | slice t x l hh m =>
    simp only [execA] at h
    split at h
    · obtain ⟨x, hv, rfl, rfl⟩ := one_res h; exact ⟨rfl, x, rfl⟩
    · cases h
  | load t x =>
    simp only [execA] at h
    split at h
    · obtain ⟨x, hv, rfl, rfl⟩ := one_res h; exact ⟨rfl, x, rfl⟩
    · cases h
  | lookup t x y ok =>
    simp only [execA] at h
    split at h
    · obtain ⟨x, hv, rfl, rfl⟩ := one_res h; exact ⟨rfl, x, rfl⟩
    · cases h
  | convert s d x =>
    simp only [execA] at h
    simp only [kindOf] at hk
    cases hp : opd ρ x with
    | none => rw [hp] at h; cases h
    | some v0 =>
      rw [hp] at h
      simp only [] at h
      obtain ⟨v, hv, rfl⟩ := two_res h
      exact ⟨conv_reads hk hv, v, rfl⟩
  | call c =>
    simp only [execA] at h
    simp only [kindOf, kindCall] at hk
    cases ha : opds ρ c.args.toList with
    | none => rw [ha] at h; cases h
    | some args =>
      rw [ha] at h
      simp only [] at h
      cases hc : c.callee with
      | value f => rw [hc] at hk; cases hk
      | invoke r m => rw [hc] at hk; cases hk
      | builtin b =>
        rw [hc] at h hk
        simp only [] at h
        obtain ⟨v, hv, rfl⟩ := two_res h
        cases b with
        | len =>
          simp only [builtinA] at hv
          cases hm : lenOp E st c.argTypes args with
          | none => rw [hm] at hv; cases hv
          | some u =>
            rw [hm] at hv
            simp only [Option.map_some, Option.some.injEq, Prod.mk.injEq] at hv
            exact ⟨hv.2.symm, v, rfl⟩
        | _ => cases hk
  | _ => cases hk

/-! ### The model does the same -/
section
variable {P : Program} {E : Env} {μ : Ren} {st : St} {w : World} {base : Nat}

def ResR (P : Program) (μ : Ren) (st : St) (w : World) (base : Nat) (s : Sem Next) (res : ORes) (st' : St) : Prop :=
  match res with
  | .val v => ∃ v' w' μ', (s.run P w = .ok (.value v') w' ∨ (s.run P w = .ok .skip w' ∧ v' = undef)) ∧ VR μ' v v' ∧ HR μ' st' w'.heap base ∧ Ex μ st w μ' st' w' base
  | .enter f args => st' = st ∧ ∃ args' : Array Value, s.run P w = .ok (.enter f args') w ∧ VRL μ args args'.toList
  | .round l args => st' = st ∧ ∃ L, ∃ args' : Array Value, μ l = some L ∧ VRL μ args args'.toList ∧ s.run P w = (Instr.yield L.blk args').run P w

theorem Snd.res {s : Sem Value} {v : Value} {st' : St} (h : Snd P μ st w base s v st') : ResR P μ st w base (do pure (.value (← s))) (.val v) st' := by
  obtain ⟨v', w', μ', a, b, c, d⟩ := h
  exact ⟨v', w', μ', .inl (by simp only [Sem.run_bind, a, Result.andThen_ok, Sem.run_pure]), b, c, d⟩

theorem Pur.res {s : Sem Value} {v : Value} (h : Pur P μ w s v) (hr : HR μ st w.heap base) : ResR P μ st w base (do pure (.value (← s))) (.val v) st := (h.snd hr).res

theorem SndU.res {s : Sem Unit} {st' : St} (h : SndU P μ st w base s st') : ResR P μ st w base (do s; pure .skip) (.val undefV) st' := by
  obtain ⟨w', μ', a, b, c⟩ := h
  exact ⟨undef, w', μ', .inr ⟨by simp only [Sem.run_bind, a, Result.andThen_ok, Sem.run_pure], rfl⟩, VR.unit, b, c⟩

theorem val_res {v v' : Value} (hr : HR μ st w.heap base) (h : VR μ v v') : ResR P μ st w base (pure (.value v')) (.val v) st := ⟨v', w, μ, .inl rfl, h, hr, Ex.refl _ _ _ _⟩

theorem map_eval_toList (a : Act) (l : Array Operand) : (l.map a.eval).toList = l.toList.map a.eval := by simp

theorem builtin_sound (hE : EnvOK P E) (hr : HR μ st w.heap base) {b : Builtin} {ts : Array TypeId} {ty : TypeId} {cs : Array Bool} {args : List Value} {args' : Array Value} {v : Value} {st' : St}
    (h : builtinA E st b ts args = some (v, st')) (ha : VRL μ args args'.toList) : ResR P μ st w base (builtin b ts ty cs args') (.val v) st' := by
  cases b with
  | append =>
    simp only [builtinA] at h
    cases hap : appendA E st ts args with
    | some r =>
      rw [hap] at h
      simp only [Option.some.injEq] at h
      subst h
      exact (append_sound hE hr hap ha).res
    | none =>
      rw [hap] at h
      exact (appendZ_sound hE hr h ha).res
  | copy => exact (copy_sound hE hr h ha).res
  | clear => exact (clear_sound hE hr h ha).res
  | delete => exact (delete_sound hE hr h ha).res
  | len =>
    simp only [builtinA] at h
    cases hm : lenOp E st ts args with
    | none => rw [hm] at h; cases h
    | some u =>
      rw [hm] at h
      simp only [Option.map_some, Option.some.injEq, Prod.mk.injEq] at h
      obtain ⟨rfl, rfl⟩ := h
      exact (len_sound hE hr hm ha).res hr
  | max =>
    simp only [builtinA] at h
    cases hm : foldMM true args with
    | none => rw [hm] at h; cases h
    | some u =>
      rw [hm] at h
      simp only [Option.map_some, Option.some.injEq, Prod.mk.injEq] at h
      obtain ⟨rfl, rfl⟩ := h
      refine Pur.res (s := Builtin.max_ ts ty args') ?_ hr
      unfold Builtin.max_
      generalize args'.toList = l at ha
      cases ha with
      | nil => cases hm
      | cons hx hl => exact foldMM_sound (isMax := true) _ _ _ _ _ hm hx hl
  | min =>
    simp only [builtinA] at h
    cases hm : foldMM false args with
    | none => rw [hm] at h; cases h
    | some u =>
      rw [hm] at h
      simp only [Option.map_some, Option.some.injEq, Prod.mk.injEq] at h
      obtain ⟨rfl, rfl⟩ := h
      refine Pur.res (s := Builtin.min_ ts ty args') ?_ hr
      unfold Builtin.min_
      generalize args'.toList = l at ha
      cases ha with
      | nil => cases hm
      | cons hx hl => exact foldMM_sound (isMax := false) _ _ _ _ _ hm hx hl
  | cap => exact (cap_sound hE hr h ha).res
  | unsafeSliceData => exact (sliceData_sound hr h ha).res
  | unsafeString => exact (unsafeString_sound hE hr h ha).res
  | _ => cases h

theorem run_callFunc_enter {k : FuncId} {fn : Func} (h1 : P.funcs[k]? = some fn) (h2 : fn.body.isSome = true) (h3 : (fn.name == "runtime.NumGoroutine") = false) (args : Array Value) : (callFunc k args).run P w = .ok (.enter k args) w := by
  have h2' : fn.body.isNone = false := by cases hb : fn.body with | none => rw [hb] at h2; cases h2 | some _ => rfl
  unfold callFunc
  simp only [Sem.run_bind, run_program, Result.andThen_ok, h1, h3, Bool.false_eq_true, if_false, h2']
  rfl

theorem run_callFunc_ext {k : FuncId} {fn : Func} {e : Array Value → Sem Value} (h1 : P.funcs[k]? = some fn) (h2 : fn.body.isNone = true) (h3 : (fn.name == "runtime.NumGoroutine") = false) (h4 : Extern.findNext fn = none) (h5 : Extern.find fn = some e)
    {args : Array Value} {v : Value} {w' : World} (h6 : (e args).run P w = .ok v w') : (callFunc k args).run P w = .ok (.value v) w' := by
  unfold callFunc
  simp only [Sem.run_bind, run_program, Result.andThen_ok, h1, h3, Bool.false_eq_true, if_false, h2, if_true, h4, h5, mark]
  simp only [Sem.run, h6, Result.andThen_ok]
  rfl

theorem callA_sound (hE : EnvOK P E) (hr : HR μ st w.heap base) {f f' : Value} {args : List Value} {args' : Array Value} {res : ORes} {st' : St} (h : callA E st f args = some (res, st')) (hf : VR μ f f') (ha : VRL μ args args'.toList) :
    ResR P μ st w base (do let d ← Deferred.ofValue f' args'; invoke d.target d.args) res st' := by
  unfold callA at h
  cases hf with
  | func fn g a a' c c' hfn hA hC =>
    have hargs : VRL μ (a.toList ++ args ++ c.toList) (a' ++ args' ++ c').toList := by
      rw [Array.toList_append, Array.toList_append]; exact (hA.append ha).append hC
    cases fn with
    | func k =>
      have : g = .func k := hfn
      subst this
      simp only [] at h
      have hsem : (do let d ← Deferred.ofValue (.func (.func k) a' c') args'; invoke d.target d.args : Sem Next).run P w = (callFunc k (a' ++ args' ++ c')).run P w := rfl
      cases hk : E.fn.get k with
      | some fn =>
        rw [hk] at h
        simp only [Option.some.injEq, Prod.mk.injEq] at h
        obtain ⟨rfl, rfl⟩ := h
        obtain ⟨h1, h2, h3⟩ := hE.fn k fn hk
        refine ⟨rfl, a' ++ args' ++ c', ?_, hargs⟩
        rw [hsem]
        exact run_callFunc_enter h1 h2 h3 _
      | none =>
        rw [hk] at h
        simp only [] at h
        cases hx : E.ext.get k with
        | none => rw [hx] at h; cases h
        | some x =>
          rw [hx] at h
          simp only [] at h
          cases he : externA x st (a.toList ++ args ++ c.toList) with
          | none => rw [he] at h; cases h
          | some q =>
            obtain ⟨v, s⟩ := q
            rw [he] at h
            simp only [Option.some.injEq, Prod.mk.injEq] at h
            obtain ⟨rfl, rfl⟩ := h
            obtain ⟨fn, h1, h2, h3, h4, h5⟩ := hE.ext k x hx
            obtain ⟨v', w', μ', e1, e2, e3, e4⟩ := extern_sound (P := P) hr he hargs
            refine ⟨v', w', μ', .inl ?_, e2, e3, e4⟩
            rw [hsem]
            exact run_callFunc_ext h1 h2 h3 h4 h5 e1
    | yield l =>
      obtain ⟨L, hL, rfl⟩ := hfn
      simp only [] at h
      cases hq : a.toList with
      | cons _ _ => rw [hq] at h; cases h
      | nil =>
        rw [hq] at h
        simp only [Option.some.injEq, Prod.mk.injEq] at h
        obtain ⟨rfl, rfl⟩ := h
        rw [hq] at hA
        have ha0 : a'.toList = [] := by generalize a'.toList = z at hA; cases hA; rfl
        have ha1 : a' = #[] := Array.toList_eq_nil_iff.1 ha0
        subst ha1
        refine ⟨rfl, L, args', hL, ha, ?_⟩
        show (Instr.yield L.blk (#[] ++ args')).run P w = _
        simp
    | via t p k q =>
      have : g = .via t p k q := hfn
      subst this
      simp only [] at h
      cases hp : p.toList with
      | cons _ _ => rw [hp] at h; cases h
      | nil =>
        rw [hp] at h
        cases q with
        | false => cases h
        | true =>
          have hp0 : p = #[] := Array.toList_eq_nil_iff.1 hp
          subst hp0
          cases ht : E.ti.get t with
          | none => rw [ht] at h; cases h
          | some i =>
            cases hk : E.fn.get k with
            | none => rw [ht, hk] at h; cases h
            | some fn =>
              rw [ht, hk] at h
              have hargs2 : VRL μ (a.toList ++ args) (a' ++ args').toList := by rw [Array.toList_append]; exact hA.append ha
              generalize hl : a.toList ++ args = l at h hargs2
              generalize hl' : (a' ++ args').toList = l' at hargs2
              cases hargs2 with
              | nil => cases h
              | cons hx hrest =>
                rename_i x x' r r'
                simp only [] at h
                cases hu : i.und with
                | pointer e =>
                  rw [hu] at h
                  simp only [Option.some.injEq, Prod.mk.injEq] at h
                  obtain ⟨rfl, rfl⟩ := h
                  obtain ⟨h1, h2, h3⟩ := hE.fn k fn hk
                  have e0 : (a' ++ args')[0]? = some x' := by rw [← Array.getElem?_toList, hl']; rfl
                  have er : ((a' ++ args').extract 1 (a' ++ args').size).toList = r' := by
                    rw [Array.toList_extract, hl']
                    have : (a' ++ args').size = r'.length + 1 := by rw [← Array.length_toList, hl']; rfl
                    rw [this]
                    simp [List.extract]
                  refine ⟨rfl, #[x'] ++ (a' ++ args').extract 1 (a' ++ args').size, ?_, ?_⟩
                  · have hund := hE.run_und ht w
                    rw [hu] at hund
                    show (invoke (.fn (.via t #[] k true) c') (a' ++ args')).run P w = _
                    have hrv : (receiverVia t x' #[] true).run P w = .ok x' w := by
                      simp [receiverVia, follow, receiverAt, hund, Place.get]
                    simp only [invoke, e0, Sem.run_bind, hrv, Result.andThen_ok]
                    exact run_callFunc_enter h1 h2 h3 _
                  · rw [Array.toList_append, er]
                    exact .cons hx hrest
                | _ => rw [hu] at h; cases h
    | _ => cases h
  | _ => cases h

theorem execA_sound (hE : EnvOK P E) (hr : HR μ st w.heap base) {ρ : Nat → Value} {a : Act} (hρ : RR μ ρ a.tmps) {o : Oper} {res : ORes} {st' : St} (h : execA E ρ st o.op = some (res, st')) :
    ResR P μ st w base (execOp a.eval o) res st' := by
  cases hop : o.op with
  | move x =>
    rw [hop] at h
    obtain ⟨v, hv, rfl, rfl⟩ := one_res h
    unfold execOp; rw [hop]
    exact val_res hr (opd_sound hρ hv)
  | assign x =>
    rw [hop] at h
    obtain ⟨v, hv, rfl, rfl⟩ := one_res h
    unfold execOp; rw [hop]
    exact val_res hr (opd_sound hρ hv)
  | pick c ox oy =>
    rw [hop] at h
    simp only [execA] at h
    split at h
    · rename_i t x y h1 h2 h3
      simp only [Option.some.injEq, Prod.mk.injEq] at h
      obtain ⟨rfl, rfl⟩ := h
      have g1 := opd_sound hρ h1
      generalize hc : a.eval c = c' at g1
      cases g1
      unfold execOp; rw [hop]
      simp only [hc]
      refine ⟨if t = true then a.eval ox else a.eval oy, w, μ, .inl (by simp only [asBool, Sem.run_bind, Sem.run_pure, Result.andThen_ok]), ?_, hr, Ex.refl _ _ _ _⟩
      cases t
      · exact opd_sound hρ h3
      · exact opd_sound hρ h2
    · cases h
  | alloc t =>
    rw [hop] at h
    obtain ⟨v, hv, rfl⟩ := two_res h
    unfold execOp; rw [hop]
    exact (alloc_sound hE hr hv).res
  | box t x =>
    rw [hop] at h
    simp only [execA] at h
    cases hp : opd ρ x with
    | none => rw [hp] at h; cases h
    | some v0 =>
      rw [hp] at h
      obtain ⟨v, hv, rfl⟩ := two_res h
      unfold execOp; rw [hop]
      exact (box_sound hE hr hv (opd_sound hρ hp)).res
  | build t ps =>
    rw [hop] at h
    simp only [execA] at h
    cases hp : partsV ρ ps.toList with
    | none => rw [hp] at h; cases h
    | some l =>
      rw [hp] at h
      obtain ⟨v, hv, rfl, rfl⟩ := one_res h
      unfold execOp; rw [hop]
      exact (build_sound hE hv (by simpa using partsV_sound hρ hp)).res hr
  | buildSlice t n ps =>
    rw [hop] at h
    simp only [execA] at h
    cases hp : partsV ρ ps.toList with
    | none => rw [hp] at h; cases h
    | some l =>
      rw [hp] at h
      obtain ⟨v, hv, rfl⟩ := two_res h
      unfold execOp; rw [hop]
      exact (buildSlice_sound hE hr hv (by simpa using partsV_sound hρ hp)).res
  | load t x =>
    rw [hop] at h
    simp only [execA] at h
    split at h
    · rename_i ad h1
      obtain ⟨v, hv, rfl, rfl⟩ := one_res h
      unfold execOp; rw [hop]
      exact (loadVar_sound hE hr hv (opd_sound hρ h1)).res hr
    · cases h
  | store t x y =>
    rw [hop] at h
    simp only [execA] at h
    split at h
    · rename_i ad v0 h1 h2
      obtain ⟨hv, rfl⟩ := unit_res h
      unfold execOp; rw [hop]
      exact (storeVar_sound hE hr hv (opd_sound hρ h1) (opd_sound hρ h2)).res
    · cases h
  | nilCheck x =>
    rw [hop] at h
    simp only [execA] at h
    unfold execOp; rw [hop]
    split at h
    · rename_i ad h1
      simp only [Option.some.injEq, Prod.mk.injEq] at h
      obtain ⟨rfl, rfl⟩ := h
      have g1 := opd_sound hρ h1
      simp only []
      generalize a.eval x = x' at g1
      cases g1 with
      | ptr b o L hb => exact val_res hr (.ptr b o L hb)
    · rename_i f c1 c2 h1
      simp only [Option.some.injEq, Prod.mk.injEq] at h
      obtain ⟨rfl, rfl⟩ := h
      have g1 := opd_sound hρ h1
      simp only []
      generalize a.eval x = x' at g1
      cases g1 with
      | func fn g a1 a' c c' hfn hA hC =>
        have : g = .func f := hfn
        subst this
        exact val_res hr (.func _ _ _ _ _ _ hfn hA hC)
    · rename_i f c1 c2 h1
      simp only [Option.some.injEq, Prod.mk.injEq] at h
      obtain ⟨rfl, rfl⟩ := h
      have g1 := opd_sound hρ h1
      simp only []
      generalize a.eval x = x' at g1
      cases g1 with
      | func fn g a1 a' c c' hfn hA hC =>
        obtain ⟨L, hL, rfl⟩ := hfn
        exact val_res hr (.func _ _ _ _ _ _ ⟨L, hL, rfl⟩ hA hC)
    · cases h
  | binOp op t x y u =>
    rw [hop] at h
    simp only [execA] at h
    split at h
    · rename_i v1 v2 h1 h2
      obtain ⟨v, hv, rfl, rfl⟩ := one_res h
      unfold execOp; rw [hop]
      exact (binOpC_sound hE hv (opd_sound hρ h1) (opd_sound hρ h2)).res hr
    · cases h
  | unOp op t x =>
    rw [hop] at h
    simp only [execA] at h
    cases hp : opd ρ x with
    | none => rw [hp] at h; cases h
    | some v0 =>
      rw [hp] at h
      obtain ⟨v, hv, rfl, rfl⟩ := one_res h
      unfold execOp; rw [hop]
      exact (unA_sound hv (opd_sound hρ hp)).res hr
  | convert s d x =>
    rw [hop] at h
    simp only [execA] at h
    cases hp : opd ρ x with
    | none => rw [hp] at h; cases h
    | some v0 =>
      rw [hp] at h
      obtain ⟨v, hv, rfl⟩ := two_res h
      unfold execOp; rw [hop]
      exact (convert_sound hE hr hv (opd_sound hρ hp)).res
  | makeFunc fn first captured =>
    rw [hop] at h
    simp only [execA] at h
    unfold execOp; rw [hop]
    split at h
    · rename_i v1 v2 h1 h2
      have g1 := opds_sound hρ h1
      have g2 := opds_sound hρ h2
      cases fn with
      | func f =>
        simp only [Option.some.injEq, Prod.mk.injEq] at h
        obtain ⟨rfl, rfl⟩ := h
        exact Pur.res (s := Instr.makeFunc (.func f) (first.map a.eval) (captured.map a.eval)) ⟨_, rfl, .func _ _ _ _ _ _ rfl (by simpa using g1) (by simpa using g2)⟩ hr
      | via t p g q =>
        simp only [Option.some.injEq, Prod.mk.injEq] at h
        obtain ⟨rfl, rfl⟩ := h
        exact Pur.res (s := Instr.makeFunc (.via t p g q) (first.map a.eval) (captured.map a.eval)) ⟨_, rfl, .func _ _ _ _ _ _ rfl (by simpa using g1) (by simpa using g2)⟩ hr
      | _ => cases h
    · cases h
  | makeMap t r =>
    rw [hop] at h
    obtain ⟨v, hv, rfl, hrun⟩ := makeMap_run (P := P) hE hρ (w := w) h
    unfold execOp; rw [hop]
    obtain ⟨ob, hl, _, hm⟩ := makeMap_mk (P := P) hv
    exact ((hm μ w _ hrun).snd hr hl).res
  | makeSlice t x y =>
    rw [hop] at h
    simp only [execA] at h
    split at h
    · rename_i v1 v2 h1 h2
      obtain ⟨v, hv, rfl⟩ := two_res h
      unfold execOp; rw [hop]
      exact (makeSlice_sound hE hr hv (opd_sound hρ h1) (opd_sound hρ h2)).res
    · cases h
  | slice t x l hh m =>
    rw [hop] at h
    simp only [execA] at h
    split at h
    · rename_i v1 v2 v3 v4 h1 h2 h3 h4
      obtain ⟨v, hv, rfl, rfl⟩ := one_res h
      unfold execOp; rw [hop]
      exact (sliceA_sound hE hr hv (opd_sound hρ h1) (opt_sound hρ h2) (opt_sound hρ h3) (opt_sound hρ h4)).res hr
    · cases h
  | fieldAddr t x f =>
    rw [hop] at h
    simp only [execA] at h
    cases hp : opd ρ x with
    | none => rw [hp] at h; cases h
    | some v0 =>
      rw [hp] at h
      obtain ⟨v, hv, rfl, rfl⟩ := one_res h
      unfold execOp; rw [hop]
      exact (fieldAddr_sound hE hv (opd_sound hρ hp)).res hr
  | field t x f =>
    rw [hop] at h
    simp only [execA] at h
    cases hp : opd ρ x with
    | none => rw [hp] at h; cases h
    | some v0 =>
      rw [hp] at h
      obtain ⟨v, hv, rfl, rfl⟩ := one_res h
      unfold execOp; rw [hop]
      exact (field_sound hE hv (opd_sound hρ hp)).res hr
  | indexAddr t x y =>
    rw [hop] at h
    simp only [execA] at h
    split at h
    · rename_i v1 v2 h1 h2
      obtain ⟨v, hv, rfl, rfl⟩ := one_res h
      unfold execOp; rw [hop]
      exact (indexAddr_sound hE hv (opd_sound hρ h1) (opd_sound hρ h2)).res hr
    · cases h
  | index t x y =>
    rw [hop] at h
    simp only [execA] at h
    split at h
    · rename_i v1 v2 h1 h2
      obtain ⟨v, hv, rfl, rfl⟩ := one_res h
      unfold execOp; rw [hop]
      exact (index_sound hE hv (opd_sound hρ h1) (opd_sound hρ h2)).res hr
    · cases h
  | lookup t x y ok =>
    rw [hop] at h
    simp only [execA] at h
    split at h
    · rename_i v1 v2 h1 h2
      obtain ⟨v, hv, rfl, rfl⟩ := one_res h
      unfold execOp; rw [hop]
      exact (lookup_sound hE hr hv (opd_sound hρ h1) (opd_sound hρ h2)).res hr
    · cases h
  | mapUpdate t m k x =>
    rw [hop] at h
    simp only [execA] at h
    split at h
    · rename_i v1 v2 v3 h1 h2 h3
      obtain ⟨hv, rfl⟩ := unit_res h
      unfold execOp; rw [hop]
      exact (mapSet_sound hE hr hv (opd_sound hρ h1) (opd_sound hρ h2) (opd_sound hρ h3)).res
    · cases h
  | insert t m k x =>
    rw [hop] at h
    simp only [execA] at h
    split at h
    · rename_i v1 v2 v3 h1 h2 h3
      obtain ⟨hv, rfl⟩ := unit_res h
      unfold execOp; rw [hop]
      exact (mapSet_sound hE hr hv (opd_sound hρ h1) (opd_sound hρ h2) (opd_sound hρ h3)).res
    · cases h
  | mapEntry t m k =>
    rw [hop] at h
    simp only [execA] at h
    split at h
    · rename_i v1 v2 h1 h2
      obtain ⟨v, hv, rfl⟩ := two_res h
      unfold execOp; rw [hop]
      exact (mapEntry_sound hE hr hv (opd_sound hρ h1) (opd_sound hρ h2)).res
    · cases h
  | entryStore t m k x =>
    rw [hop] at h
    simp only [execA] at h
    split at h
    · rename_i v1 v2 v3 h1 h2 h3
      obtain ⟨hv, rfl⟩ := unit_res h
      unfold execOp; rw [hop]
      exact (entryStore_sound hr hv (opd_sound hρ h1) (opd_sound hρ h2) (opd_sound hρ h3)).res
    · cases h
  | range t x =>
    rw [hop] at h
    simp only [execA] at h
    cases hp : opd ρ x with
    | none => rw [hp] at h; cases h
    | some v0 =>
      rw [hp] at h
      obtain ⟨v, hv, rfl⟩ := two_res h
      unfold execOp; rw [hop]
      exact (range_sound hE hr hv (opd_sound hρ hp)).res
  | entry x =>
    rw [hop] at h
    simp only [execA] at h
    cases hp : opd ρ x with
    | none => rw [hp] at h; cases h
    | some v0 =>
      rw [hp] at h
      obtain ⟨v, hv, rfl, rfl⟩ := one_res h
      unfold execOp; rw [hop]
      exact (entry_sound hr hv (opd_sound hρ hp)).res hr
  | extract x i =>
    rw [hop] at h
    simp only [execA] at h
    split at h
    · rename_i vs h1
      obtain ⟨v, hv, rfl, rfl⟩ := one_res h
      have g1 := opd_sound hρ h1
      unfold execOp; rw [hop]
      refine Pur.res (s := Instr.extract (a.eval x) i) ?_ hr
      generalize a.eval x = x' at g1
      cases g1 with
      | tuple _ a' hl =>
        obtain ⟨v', e1, e2⟩ := hl.get hv
        have e1' : a'[i]? = some v' := by rw [← Array.getElem?_toList]; exact e1
        exact ⟨v', by simp [Instr.extract, e1'], e2⟩
    · cases h
  | call c =>
    rw [hop] at h
    simp only [execA] at h
    cases ha : opds ρ c.args.toList with
    | none => rw [ha] at h; cases h
    | some args =>
      rw [ha] at h
      simp only [] at h
      have hargs : VRL μ args (c.args.map a.eval).toList := by simpa using opds_sound hρ ha
      unfold execOp; rw [hop]
      cases hc : c.callee with
      | builtin b =>
        rw [hc] at h
        obtain ⟨v, hv, rfl⟩ := two_res h
        have := builtin_sound (P := P) (ty := o.type) (cs := c.args.map fun | .const _ => true | _ => false) hE hr hv hargs
        show ResR P μ st w base (do let d ← resolve a.eval c o.type; invoke d.target d.args) (.val v) st'
        unfold resolve; rw [hc]; exact this
      | value f =>
        rw [hc] at h
        simp only [] at h
        cases hf : opd ρ f with
        | none => rw [hf] at h; cases h
        | some fv =>
          rw [hf] at h
          have := callA_sound hE hr h (opd_sound hρ hf) hargs
          show ResR P μ st w base (do let d ← resolve a.eval c o.type; invoke d.target d.args) res st'
          unfold resolve; rw [hc]; exact this
      | invoke r m => rw [hc] at h; cases h
  | _ => rw [hop] at h; cases h

/-! ### What comes to more than one end -/
theorem forkA_sound (hE : EnvOK P E) (hr : HR μ st w.heap base) {ρ : Nat → Value} {a : Act} (hρ : RR μ ρ a.tmps) {o : Oper} {l : List RRes} (h : forkA E ρ st o.op = some l) :
    ∃ x ∈ l, ResR P μ st w base (execOp a.eval o) (.val x.v) x.s := by
  cases hop : o.op with
  | call c =>
    rw [hop] at h
    simp only [forkA] at h
    unfold execOp; rw [hop]
    cases hc : c.callee with
    | builtin b =>
      rw [hc] at h
      cases b <;> first | (cases h; done) | skip
      have h' : (match opds ρ c.args.toList with | some args => forkAppend E st c.argTypes args | none => none) = some l := by
        cases hfk : E.forks with
        | nil => rw [hfk] at h; cases h
        | cons _ _ => rw [hfk] at h; exact h
      cases ha : opds ρ c.args.toList with
      | none => rw [ha] at h'; cases h'
      | some args =>
        rw [ha] at h'
        have hargs : VRL μ args (c.args.map a.eval).toList := by simpa using opds_sound hρ ha
        obtain ⟨x, hx, hs⟩ := forkAppend_sound (P := P) (ty := o.type) hE hr h' hargs
        refine ⟨x, hx, ?_⟩
        show ResR P μ st w base (do let d ← resolve a.eval c o.type; invoke d.target d.args) (.val x.v) x.s
        unfold resolve; rw [hc]
        exact hs.res
    | value f =>
      rw [hc] at h
      simp only [] at h
      cases hf : opd ρ f with
      | none => rw [hf] at h; cases h
      | some fv =>
        rw [hf] at h
        have hfv := opd_sound hρ hf
        cases fv with
        | func fn0 first captured =>
          cases fn0 with
          | func g =>
              simp only [] at h
              cases hk : E.fn.get g with
              | some _ => rw [hk] at h; cases h
              | none =>
                rw [hk] at h
                simp only [] at h
                cases hx : E.ext.get g with
                | none => rw [hx] at h; cases h
                | some x =>
                  cases x with
                  | ovl t =>
                    rw [hx] at h
                    simp only [] at h
                    cases ha : opds ρ c.args.toList with
                    | none => rw [ha] at h; cases h
                    | some args =>
                      rw [ha] at h
                      have hargs : VRL μ args (c.args.map a.eval).toList := by simpa using opds_sound hρ ha
                      generalize hfe : a.eval f = f' at hfv
                      cases hfv with
                      | func _ gg a1 a' c1 c' hfn hA hC =>
                        have : gg = .func g := hfn
                        subst this
                        have hargs2 : VRL μ (first.toList ++ args ++ captured.toList) (a' ++ c.args.map a.eval ++ c').toList := by
                          rw [Array.toList_append, Array.toList_append]; exact (hA.append hargs).append hC
                        obtain ⟨x, hx', v', w', μ', e1, e2, e3, e4⟩ := forkOvl_sound (P := P) hE hr h hargs2
                        obtain ⟨fn, h1, h2, h3, h4, h5⟩ := hE.ext g _ hx
                        refine ⟨x, hx', v', w', μ', .inl ?_, e2, e3, e4⟩
                        have hrun := run_callFunc_ext (P := P) (w := w) h1 h2 h3 h4 h5 e1
                        show (do let d ← resolve a.eval c o.type; invoke d.target d.args : Sem Next).run P w = _
                        unfold resolve; rw [hc]
                        simp only [hfe]
                        exact hrun
                  | _ => rw [hx] at h; cases h
          | _ => cases h
        | _ => cases h
    | invoke r m => rw [hc] at h; cases h
  | _ => rw [hop] at h; cases h

/-! ### What is laid -/
def MkN (P : Program) (μ : Ren) (w : World) (s : Sem Next) (v : Value) (b : Nat) (o : AObj) : Prop :=
  ∃ v' o' w' L, s.run P w = .ok (.value v') w' ∧ w'.heap = w.heap.push o' ∧ w'.os = w.os ∧ w'.output = w.output ∧ L.blk = w.heap.size ∧
    ∀ μ', Sub μ μ' → μ' b = some L → VR μ' v v' ∧ ObjR μ' o L o'

theorem Mk.next {s : Sem Value} {v : Value} {b : Nat} {o : AObj} (h : Mk P μ w s v b o) : MkN P μ w (do pure (.value (← s))) v b o := by
  obtain ⟨v', o', w', L, a, r⟩ := h
  exact ⟨v', o', w', L, by simp only [Sem.run_bind, a, Result.andThen_ok, Sem.run_pure], r⟩

theorem makes_kind (hE : EnvOK P E) {ρ : Nat → Value} {op : Op} {st' : St} {res : ORes} (hk : kindOf E op = .makes) (h : execA E ρ st op = some (res, st')) :
    ∃ v o, res = .val v ∧ Lays st o st' ∧ isLive o = true ∧ ∀ (μ : Ren) (w : World) (a : Act) (p : Oper), RR μ ρ a.tmps → p.op = op → MkN P μ w (execOp a.eval p) v st.next o := by
  cases op with
  | alloc t =>
    obtain ⟨v, hv, rfl⟩ := two_res h
    obtain ⟨o, h1, h2, h3⟩ := alloc_mk (P := P) hE hv
    refine ⟨v, o, rfl, h1, h2, fun μ w a p hρ hp => ?_⟩
    unfold execOp; rw [hp]
    exact (h3 μ w).next
  | box t x =>
    simp only [execA] at h
    cases hp : opd ρ x with
    | none => rw [hp] at h; cases h
    | some v0 =>
      rw [hp] at h
      obtain ⟨v, hv, rfl⟩ := two_res h
      obtain ⟨o, h1, h2, h3⟩ := box_mk (P := P) hE hv
      refine ⟨v, o, rfl, h1, h2, fun μ w a p hρ hpo => ?_⟩
      unfold execOp; rw [hpo]
      exact (h3 μ w _ (opd_sound hρ hp)).next
  | buildSlice t n ps =>
    simp only [execA] at h
    cases hp : partsV ρ ps.toList with
    | none => rw [hp] at h; cases h
    | some l =>
      rw [hp] at h
      obtain ⟨v, hv, rfl⟩ := two_res h
      obtain ⟨o, h1, h2, h3⟩ := buildSlice_mk (P := P) hE hv
      refine ⟨v, o, rfl, h1, h2, fun μ w a p hρ hpo => ?_⟩
      unfold execOp; rw [hpo]
      exact (h3 μ w _ (by simpa using partsV_sound hρ hp)).next
  | makeMap t r =>
    have hv : ∃ v, makeMapA st = some (v, st') ∧ res = .val v := by
      simp only [execA] at h
      split at h
      · cases hi : E.ti.get t with
        | none => rw [hi] at h; cases h
        | some i =>
          rw [hi] at h
          simp only [] at h
          cases hiu : i.und <;> rw [hiu] at h <;> first | (cases h; done) | exact two_res h
      · exact two_res h
      · cases h
    obtain ⟨v, hv, rfl⟩ := hv
    obtain ⟨o, h1, h2, h3⟩ := makeMap_mk (P := P) hv
    refine ⟨v, o, rfl, h1, h2, fun μ w a p hρ hpo => ?_⟩
    obtain ⟨_, _, _, hrun⟩ := makeMap_run (P := P) hE hρ (w := w) h
    unfold execOp; rw [hpo]
    exact (h3 μ w _ hrun).next
  | makeSlice t x y =>
    simp only [execA] at h
    split at h
    · rename_i v1 v2 hh1 hh2
      obtain ⟨v, hv, rfl⟩ := two_res h
      obtain ⟨o, h1, h2, h3⟩ := makeSlice_mk (P := P) hE hv
      refine ⟨v, o, rfl, h1, h2, fun μ w a p hρ hpo => ?_⟩
      unfold execOp; rw [hpo]
      exact (h3 μ w _ _ (opd_sound hρ hh1) (opd_sound hρ hh2)).next
    · cases h
  | convert s d x =>
    simp only [execA] at h
    simp only [kindOf] at hk
    cases hp : opd ρ x with
    | none => rw [hp] at h; cases h
    | some v0 =>
      rw [hp] at h
      simp only [] at h
      obtain ⟨v, hv, rfl⟩ := two_res h
      obtain ⟨o, h1, h2, h3⟩ := convert_mk (P := P) hE hk hv
      refine ⟨v, o, rfl, h1, h2, fun μ w a p hρ hpo => ?_⟩
      unfold execOp; rw [hpo]
      exact (h3 μ w _ (opd_sound hρ hp)).next
  | call c =>
    simp only [kindOf, kindCall] at hk
    cases hc : c.callee with
    | value f => rw [hc] at hk; cases hk
    | invoke r m => rw [hc] at hk; cases hk
    | builtin b =>
      rw [hc] at hk
      cases b <;> simp only [] at hk <;> first
        | (cases hk; done)
        | (split at hk <;> first
            | (cases hk; done)
            | (split at hk <;> first
                | (cases hk; done)
                | (split at hk <;> cases hk)))
  | _ => cases hk

end
end Go.Det
