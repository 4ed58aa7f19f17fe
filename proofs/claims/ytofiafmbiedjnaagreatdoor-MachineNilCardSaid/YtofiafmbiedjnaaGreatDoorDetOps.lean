/- Each operation: what the abstract interpreter says holds of the model. First: what leaves memory alone. -/
import Derived.Test.YtofiafmbiedjnaaGreatDoorDetHeap
import Derived.Laws.StructEq
import Derived.Orders
import Derived.OrdersIn
set_option autoImplicit false
namespace Go.Det

def extSem : Ext → Array Value → Sem Value
  | .cmp => Extern.BytealgCompare.compare
  | .same => Extern.AbiNoEscape.same
  | .idx => Extern.BytealgIndexByte.indexByte
  | .cnt => Extern.BytealgCount.count
  | .ovl t => Extern.SlicesOverlaps.overlaps #[t, t] #[]

structure EnvOK (P : Program) (E : Env) : Prop where
  und : ∀ t i, E.ti.get t = some i → P.underlying t = some i.und
  info : ∀ t i, E.ti.get t = some i → ∃ x, P.info? t = some x ∧ x.size = i.size ∧ x.bytes = i.bytes ∧ x.zero = some i.zero
  zero : ∀ t i, E.ti.get t = some i → plainV i.zero = true ∧ (cellsOf i.zero).length = i.size
  eqOk : ∀ t i, E.ti.get t = some i → i.eqOk = true → P.stoodInHeld t = false ∧ P.eqGuardType P.depth t = false
  fn : ∀ f g, E.fn.get f = some g → P.funcs[f]? = some g ∧ g.body.isSome = true ∧ (g.name == "runtime.NumGoroutine") = false
  ext : ∀ f x, E.ext.get f = some x → ∃ g, P.funcs[f]? = some g ∧ g.body.isNone = true ∧ (g.name == "runtime.NumGoroutine") = false ∧ Extern.findNext g = none ∧ Extern.find g = some (extSem x)
  lies : ∀ e o u, (e, o, u) ∈ E.lies → liesAt P P.depth e 1 o u 1 = true
  mixed : P.follows .mixedOrders = true

section facts
variable {P : Program} {E : Env} (hE : EnvOK P E)
include hE

theorem EnvOK.run_und {t : TypeId} {i : TI} (h : E.ti.get t = some i) (w : World) : (underlying t).run P w = .ok i.und w := run_underlying (hE.und t i h) w

theorem EnvOK.run_size {t : TypeId} {i : TI} (h : E.ti.get t = some i) (w : World) : (sizeOf t).run P w = .ok i.size w := by
  obtain ⟨x, a, b, _⟩ := hE.info t i h
  simp [sizeOf, typeInfo, a, b]

theorem EnvOK.run_zero {t : TypeId} {i : TI} (h : E.ti.get t = some i) (w : World) : (zeroValue t).run P w = .ok i.zero w := by
  obtain ⟨x, a, _, _, b⟩ := hE.info t i h
  simp [zeroValue, typeInfo, a, b]

theorem EnvOK.run_info {t : TypeId} {i : TI} (h : E.ti.get t = some i) (w : World) : ∃ x, (typeInfo t).run P w = .ok x w ∧ x.size = i.size ∧ x.bytes = i.bytes ∧ x.zero = some i.zero := by
  obtain ⟨x, a, b, c, d⟩ := hE.info t i h
  exact ⟨x, by simp [typeInfo, a], b, c, d⟩

theorem EnvOK.run_agg {t : TypeId} {i : TI} (h : E.ti.get t = some i) (w : World) : (isAgg t).run P w = .ok (isAggTy i.und) w := by
  unfold isAgg
  simp only [Sem.run_bind, hE.run_und h, Result.andThen_ok]
  cases i.und <;> rfl
end facts

theorem plain0_VR (μ : Ren) {v : Value} (h : plain0 v = true) : VR μ v v := by
  cases v with
  | bool b => exact .bool b
  | int k n => exact .int k n
  | string s => exact .string s
  | pointer a => cases a with
    | none => exact .pnil
    | some a => cases h
  | slice a l c => cases a with
    | none =>
      simp only [plain0, Bool.and_eq_true, Nat.beq_eq] at h
      obtain ⟨rfl, rfl⟩ := h
      exact .snil
    | some a => cases h
  | map r => cases r with
    | none => exact .mnil
    | some r => cases h
  | nilFunc => exact .nilFunc
  | nilIface => exact .nilIface
  | _ => cases h

theorem plainL_VRL (μ : Ren) : ∀ {l : List Value}, l.all plain0 = true → VRL μ l l
  | [], _ => .nil
  | v :: r, h => by
    simp only [List.all_cons, Bool.and_eq_true] at h
    exact .cons (plain0_VR μ h.1) (plainL_VRL μ h.2)

theorem plainV_VR (μ : Ren) {v : Value} (h : plainV v = true) : VR μ v v := by
  cases v with
  | agg a => exact .agg a a (plainL_VRL μ h)
  | _ => exact plain0_VR μ h

theorem plainV_cells (μ : Ren) {v : Value} (h : plainV v = true) : VRL μ (cellsOf v) (cellsOf v) := (plainV_VR μ h).cells

theorem opd_sound {μ : Ren} {ρ : Nat → Value} {a : Act} (hr : RR μ ρ a.tmps) {x : Operand} {v : Value} (h : opd ρ x = some v) : VR μ v (a.eval x) := by
  cases x with
  | tmp t => simp only [opd, Option.some.injEq] at h; subst h; exact hr t
  | const c =>
    simp only [opd] at h
    cases hp : plainV c with
    | false => rw [hp] at h; cases h
    | true => rw [hp] at h; simp only [cond_true, Option.some.injEq] at h; subst h; exact plainV_VR μ hp
  | global g => cases h
  | func f => simp only [opd, Option.some.injEq] at h; subst h; exact .func _ _ _ _ _ _ rfl .nil .nil

theorem opds_sound {μ : Ren} {ρ : Nat → Value} {a : Act} (hr : RR μ ρ a.tmps) : ∀ {l : List Operand} {vs : List Value}, opds ρ l = some vs → VRL μ vs (l.map a.eval)
  | [], vs, h => by simp only [opds, Option.some.injEq] at h; subst h; exact .nil
  | x :: r, vs, h => by
    simp only [opds] at h
    cases h1 : opd ρ x with
    | none => rw [h1] at h; cases h
    | some v =>
      cases h2 : opds ρ r with
      | none => rw [h1, h2] at h; cases h
      | some t =>
        rw [h1, h2] at h
        simp only [Option.some.injEq] at h
        subst h
        exact .cons (opd_sound hr h1) (opds_sound hr h2)

inductive PartsR (μ : Ren) : List (Nat × Value) → List (Nat × Value) → Prop
  | nil : PartsR μ [] []
  | cons {i : Nat} {v v' : Value} {l l' : List (Nat × Value)} (h : VR μ v v') (t : PartsR μ l l') : PartsR μ ((i, v) :: l) ((i, v') :: l')

theorem partsV_sound {μ : Ren} {ρ : Nat → Value} {a : Act} (hr : RR μ ρ a.tmps) : ∀ {l : List (Nat × Operand)} {vs : List (Nat × Value)}, partsV ρ l = some vs →
    PartsR μ vs (l.map fun x => (x.1, a.eval x.2))
  | [], vs, h => by simp only [partsV, Option.some.injEq] at h; subst h; exact .nil
  | (i, x) :: r, vs, h => by
    simp only [partsV] at h
    cases h1 : opd ρ x with
    | none => rw [h1] at h; cases h
    | some v =>
      cases h2 : partsV ρ r with
      | none => rw [h1, h2] at h; cases h
      | some t =>
        rw [h1, h2] at h
        simp only [Option.some.injEq] at h
        subst h
        exact .cons (opd_sound hr h1) (partsV_sound hr h2)

def OptR (μ : Ren) : Option Value → Option Value → Prop
  | none, v' => v' = none
  | some v, v' => ∃ u, v' = some u ∧ VR μ v u

theorem opt_sound {μ : Ren} {ρ : Nat → Value} {a : Act} (hr : RR μ ρ a.tmps) {x : Option Operand} {v : Option Value} (h : opt ρ x = some v) : OptR μ v (x.map a.eval) := by
  cases x with
  | none => simp only [opt, Option.some.injEq] at h; subst h; rfl
  | some o =>
    simp only [opt] at h
    cases h1 : opd ρ o with
    | none => rw [h1] at h; cases h
    | some u => rw [h1] at h; simp only [Option.some.injEq] at h; subst h; exact ⟨_, rfl, opd_sound hr h1⟩

/-! ### Values out of values -/
/-- A computation that leaves the world alone and comes to a value that is as said. -/
def Pur (P : Program) (μ : Ren) (w : World) (s : Sem Value) (v : Value) : Prop := ∃ v', s.run P w = .ok v' w ∧ VR μ v v'

section pure
variable {P : Program} {E : Env} {μ : Ren} {w : World}

theorem part_sound (hE : EnvOK P E) {t : TypeId} {cs cs' : Array Value} {off : Nat} {v : Value} (h : partOf E t cs.toList off = some v) (hc : VRL μ cs.toList cs'.toList) : Pur P μ w (part t cs' off) v := by
  unfold partOf at h
  cases hi : E.ti.get t with
  | none => rw [hi] at h; cases h
  | some i =>
    rw [hi] at h
    simp only [] at h
    unfold Pur part
    simp only [Sem.run_bind, hE.run_agg hi, Result.andThen_ok]
    cases ha : isAggTy i.und with
    | true =>
      rw [ha] at h
      simp only [cond_true, Option.some.injEq] at h
      subst h
      refine ⟨.agg (cs'.extract off (off + i.size)), by simp [hE.run_size hi], .agg _ _ ?_⟩
      have e : (cs'.extract off (off + i.size)).toList = (cs'.toList.drop off).take i.size := by
        rw [Array.toList_extract]; simp [List.extract]
      rw [e]
      exact (hc.drop off).take i.size
    | false =>
      rw [ha] at h
      simp only [cond_false] at h
      obtain ⟨v', a, r⟩ := hc.get h
      have a' : cs'[off]? = some v' := by rw [← Array.getElem?_toList]; exact a
      exact ⟨v', by simp [a'], r⟩

theorem field_sound (hE : EnvOK P E) {t : TypeId} {x x' v : Value} {f : Nat} (h : fieldA E t x f = some v) (hx : VR μ x x') : Pur P μ w (Instr.field t x' f) v := by
  unfold fieldA at h
  cases hi : E.ti.get t with
  | none => rw [hi] at h; cases h
  | some i =>
    rw [hi] at h
    cases hx with
    | agg a a' hl =>
      simp only [] at h
      unfold Instr.field
      cases hu : i.und with
      | struct fs =>
        rw [hu] at h
        simp only [] at h
        cases hf : fs[f]? with
        | none => rw [hf] at h; cases h
        | some fd =>
          rw [hf] at h
          simp only [] at h
          obtain ⟨v', hr, hv⟩ := part_sound (w := w) hE h hl
          have hund := hE.run_und hi w
          rw [hu] at hund
          exact ⟨v', by simp [hund, hf, asAgg, hr], hv⟩
      | _ => rw [hu] at h; cases h
    | _ => cases h

theorem fieldAddr_sound (hE : EnvOK P E) {t : TypeId} {x x' v : Value} {f : Nat} (h : fieldAddrA E t x f = some v) (hx : VR μ x x') : Pur P μ w (Instr.fieldAt t x' f) v := by
  unfold fieldAddrA at h
  cases hi : E.ti.get t with
  | none => rw [hi] at h; cases h
  | some i =>
    rw [hi] at h
    cases hx with
    | ptr b o L hb =>
      simp only [] at h
      cases hu : i.und with
      | struct fs =>
        rw [hu] at h
        simp only [] at h
        cases hf : fs[f]? with
        | none => rw [hf] at h; cases h
        | some fd =>
          rw [hf] at h
          simp only [] at h
          cases hfi : E.ti.get fd.type with
          | none => rw [hfi] at h; cases h
          | some fi =>
            rw [hfi] at h
            simp only [] at h
            have hund := hE.run_und hi w
            rw [hu] at hund
            cases hsz : fi.size with
            | zero => rw [hsz] at h; cases h
            | succ n =>
              rw [hsz] at h
              simp only [Option.some.injEq] at h
              subst h
              have hs := hE.run_size hfi w
              rw [hsz] at hs
              refine ⟨.pointer (some ⟨L.blk, L.off + (o + fd.offset), none⟩), ?_, ?_⟩
              · simp [Instr.fieldAt, hund, hf, Instr.sureAddr, fieldPlace, hs, add_none, Nat.add_assoc]
              · exact .ptr b (o + fd.offset) L hb
      | _ => rw [hu] at h; cases h
    | _ => cases h

theorem intOf_VR {x x' : Value} {n : Int} (h : intOf x = some n) (hx : VR μ x x') : ∃ k, x' = .int k n := by
  cases hx <;> simp [intOf] at h
  subst h; exact ⟨_, rfl⟩

theorem indexAddr_sound (hE : EnvOK P E) {t : TypeId} {x x' j j' v : Value} (h : indexAddrA E t x j = some v) (hx : VR μ x x') (hj : VR μ j j') : Pur P μ w (Instr.indexAt t x' j') v := by
  unfold indexAddrA at h
  cases hi : E.ti.get t with
  | none => rw [hi] at h; cases h
  | some i =>
    cases hn : intOf j with
    | none => rw [hi, hn] at h; cases h
    | some n =>
      rw [hi, hn] at h
      simp only [] at h
      obtain ⟨k, rfl⟩ := intOf_VR hn hj
      have hund := hE.run_und hi w
      unfold Instr.indexAt
      cases hx with
      | ptr b o L hb =>
        cases hu : i.und with
        | array len e =>
          rw [hu] at h hund
          simp only [] at h
          cases he : E.ti.get e with
          | none => rw [he] at h; cases h
          | some ei =>
            rw [he] at h
            simp only [] at h
            split at h
            · rename_i hb'
              simp only [Option.some.injEq] at h
              subst h
              refine ⟨.pointer (some ⟨L.blk, L.off + (o + n.toNat * ei.size), none⟩), ?_, .ptr b _ L hb⟩
              simp [asIntOf, hund, Instr.sureAddr, hb', hE.run_size he, add_none, Nat.add_assoc]
            · cases h
        | _ => rw [hu] at h; cases h
      | slice b o L len cap o' cap' hb hs =>
        cases hu : i.und with
        | slice e =>
          rw [hu] at h hund
          simp only [] at h
          cases he : E.ti.get e with
          | none => rw [he] at h; cases h
          | some ei =>
            rw [he] at h
            simp only [] at h
            split at h
            · rename_i hb'
              simp only [Option.some.injEq] at h
              subst h
              have ho : o' = L.off + o := by
                obtain ⟨h1, h2, h3⟩ := hs
                rcases Nat.lt_or_ge cap big with g | g
                · rcases (h2 g).2 with e | e
                  · exact e
                  · have := (h2 g).1; omega
                · rcases h3 g with e | e
                  · exact e.1
                  · have := e.2.1; omega
              subst ho
              refine ⟨.pointer (some ⟨L.blk, L.off + (o + n.toNat * ei.size), none⟩), ?_, .ptr b _ L hb⟩
              simp [asIntOf, hund, hb', hE.run_size he, add_none, Nat.add_assoc]
            · cases h
        | _ => rw [hu] at h; cases h
      | _ => cases hu : i.und <;> rw [hu] at h <;> cases h

theorem index_sound (hE : EnvOK P E) {t : TypeId} {x x' j j' v : Value} (h : indexA E t x j = some v) (hx : VR μ x x') (hj : VR μ j j') : Pur P μ w (Instr.index t x' j') v := by
  unfold indexA at h
  cases hi : E.ti.get t with
  | none => rw [hi] at h; cases h
  | some i =>
    cases hn : intOf j with
    | none => rw [hi, hn] at h; cases h
    | some n =>
      rw [hi, hn] at h
      simp only [] at h
      obtain ⟨k, rfl⟩ := intOf_VR hn hj
      have hund := hE.run_und hi w
      unfold Instr.index
      cases hx with
      | agg a a' hl =>
        cases hu : i.und with
        | array len e =>
          rw [hu] at h hund
          simp only [] at h
          cases he : E.ti.get e with
          | none => rw [he] at h; cases h
          | some ei =>
            rw [he] at h
            simp only [] at h
            split at h
            · rename_i hb'
              obtain ⟨v', hr, hv⟩ := part_sound (w := w) hE h hl
              exact ⟨v', by simp [asIntOf, hund, hb', hE.run_size he]; exact hr, hv⟩
            · cases h
        | _ => rw [hu] at h; cases h
      | string s =>
        cases hu : i.und with
        | string =>
          rw [hu] at h hund
          simp only [] at h
          split at h
          · rename_i h0
            cases hb : s.data.toList[n.toNat]? with
            | none => rw [hb] at h; cases h
            | some c =>
              rw [hb] at h
              simp only [Option.some.injEq] at h
              subst h
              have hb2 : s[n.toNat]? = some c := by
                rw [Array.getElem?_toList] at hb
                obtain ⟨hlt, e⟩ := Array.getElem?_eq_some_iff.1 hb
                have hlt' : n.toNat < s.size := hlt
                rw [getElem?_pos s n.toNat hlt']
                exact congrArg some e
              exact ⟨_, by simp [asIntOf, hund, h0, hb2], .int _ _⟩
          · cases h
        | _ => rw [hu] at h; cases h
      | _ => cases hu : i.und <;> rw [hu] at h <;> cases h

end pure
end Go.Det
