/- Operations on values: equality, arithmetic, slices, aggregates. -/
import Derived.Test.YtofiafmbiedjnaaGreatDoorDetOps
set_option autoImplicit false
namespace Go.Det

section pure
variable {P : Program} {E : Env} {μ : Ren} {w : World}

theorem bytesEq_eq (a b : ByteArray) : bytesEq a b = (a.toList == b.toList) := by
  rw [ByteArray.toList_eq, ByteArray.toList_eq]; rfl

theorem eqFields_sound (hE : EnvOK P E) {d : Nat} {eq : TypeId → Value → Value → Option Bool}
    (heq : ∀ t x y x' y' b, eq t x y = some b → VR μ x x' → VR μ y y' → (Op.equalIn d t x' y').run P w = .ok b w)
    {xs xs' ys ys' : Array Value} (hx : VRL μ xs.toList xs'.toList) (hy : VRL μ ys.toList ys'.toList) :
    ∀ (fs : List Field) (b : Bool), eqFieldsA E eq xs.toList ys.toList fs = some b → (Op.eqFields d xs' ys' fs).run P w = .ok b w
  | [], b, h => by simp only [eqFieldsA, Option.some.injEq] at h; subst h; rfl
  | f :: r, b, h => by
    simp only [eqFieldsA] at h
    simp only [Op.eqFields]
    by_cases hn : f.name ≠ "_"
    · rw [if_pos hn] at h
      rw [if_pos hn]
      cases h1 : partOf E f.type xs.toList f.offset with
      | none => rw [h1] at h; cases h
      | some a =>
        cases h2 : partOf E f.type ys.toList f.offset with
        | none => rw [h1, h2] at h; cases h
        | some c =>
          rw [h1, h2] at h
          simp only [] at h
          obtain ⟨a', ra, va⟩ := part_sound (w := w) hE h1 hx
          obtain ⟨c', rc, vc⟩ := part_sound (w := w) hE h2 hy
          simp only [Sem.run_bind, ra, rc, Result.andThen_ok]
          cases h3 : eq f.type a c with
          | none => rw [h3] at h; cases h
          | some q =>
            rw [h3] at h
            rw [heq _ _ _ _ _ _ h3 va vc]
            cases q with
            | true =>
              simp only [] at h
              simp only [Result.andThen_ok, Bool.not_true, Bool.false_eq_true, if_false]
              exact eqFields_sound hE heq hx hy r b h
            | false =>
              simp only [Option.some.injEq] at h
              subst h
              simp
    · rw [if_neg hn] at h
      rw [if_neg hn]
      exact eqFields_sound hE heq hx hy r b h

theorem eqAt_sound (hE : EnvOK P E) : ∀ (d : Nat) (t : TypeId) (x y x' y' : Value) (b : Bool), eqAt E d t x y = some b → VR μ x x' → VR μ y y' → (Op.equalIn d t x' y').run P w = .ok b w := by
  intro d
  induction d with
  | zero => intro t x y x' y' b h; cases h
  | succ d ih =>
    intro t x y x' y' b h hx hy
    simp only [eqAt] at h
    cases hi : E.ti.get t with
    | none => rw [hi] at h; cases h
    | some i =>
      rw [hi] at h
      simp only [] at h
      have hund := hE.run_und hi w
      have hu0 := hE.und t i hi
      cases hu : i.und with
      | bool =>
        rw [hu] at h hund
        cases hx <;> first | (cases h; done) | (cases hy <;> first | (cases h; done) | skip)
        all_goals (simp only [Option.some.injEq] at h; subst h; simp [Op.equalIn, hund])
      | int k =>
        rw [hu] at h hund
        cases hx <;> first | (cases h; done) | (cases hy <;> first | (cases h; done) | skip)
        rename_i k1 a k2 c
        by_cases e : k1 = k2
        · simp only [e, decide_true, cond_true, Option.some.injEq] at h
          subst h
          simp [Op.equalIn, hund, e]
        · simp only [e, decide_false, cond_false] at h
          cases h
      | string =>
        rw [hu] at h hund
        cases hx <;> first | (cases h; done) | (cases hy <;> first | (cases h; done) | skip)
        rename_i a c
        simp only [Option.some.injEq] at h
        subst h
        rw [bytesEq_eq]
        exact run_equalIn_string w d t a c (by rw [hu0, hu])
      | pointer e =>
        rw [hu] at h hund
        cases hx <;> first | (cases h; done) | (cases hy <;> first | (cases h; done) | skip)
        · simp only [Option.some.injEq] at h; subst h; simp [Op.equalIn, hund]
        · simp only [Option.some.injEq] at h; subst h; simp [Op.equalIn, hund]
        · simp only [Option.some.injEq] at h; subst h; simp [Op.equalIn, hund]
        · rename_i b1 o1 L1 h1 b2 o2 L2 h2
          simp only [] at h
          cases he : E.ti.get e with
          | none => rw [he] at h; cases h
          | some ei =>
            rw [he] at h
            simp only [] at h
            split at h
            · rename_i hc
              simp only [Option.some.injEq] at h
              subst h
              obtain ⟨c1, c2, _, _⟩ := hc
              have c2' : b1 = b2 := c2
              subst c2'
              rw [h1] at h2; cases h2
              have hsz := hE.run_size he w
              simp only [Op.equalIn, Sem.run_bind, hund, Result.andThen_ok, hsz, c1, ne_eq, not_false_eq_true, if_true, sameAddr, beq_self_eq_true]
              simp only [Sem.run_pure, Pure.pure, Sem.run]
              have : ((⟨L1.blk, L1.off + o1, none⟩ : Addr) == ⟨L1.blk, L1.off + o2, none⟩) = Nat.beq o1 o2 := by
                rw [Bool.eq_iff_iff, beq_iff_eq, Nat.beq_eq]
                constructor
                · intro e; injection e with _ e2; omega
                · intro e; rw [e]
              rw [this]
            · cases h
      | slice e =>
        rw [hu] at h hund
        cases hx <;> first | (cases h; done) | (cases hy <;> first | (cases h; done) | skip)
        all_goals (simp only [Option.some.injEq] at h; subst h; simp [Op.equalIn, hund])
      | map k e =>
        rw [hu] at h hund
        cases hx <;> first | (cases h; done) | (cases hy <;> first | (cases h; done) | skip)
        all_goals (simp only [Option.some.injEq] at h; subst h; simp [Op.equalIn, hund])
      | func a c v =>
        rw [hu] at h hund
        cases hx <;> first | (cases h; done) | (cases hy <;> first | (cases h; done) | skip)
        all_goals (simp only [Option.some.injEq] at h; subst h; simp [Op.equalIn, hund])
      | struct fs =>
        rw [hu] at h hund
        cases hx <;> first | (cases h; done) | (cases hy <;> first | (cases h; done) | skip)
        rename_i xs xs' hl ys ys' hl'
        simp only [] at h
        cases hok : i.eqOk with
        | false => rw [hok] at h; cases h
        | true =>
          rw [hok] at h
          simp only [cond_true] at h
          have hf : P.fieldsOf t = fs := by simp [Program.fieldsOf, hu0, hu]
          rw [run_equalIn_struct w d t xs' ys' (by rw [hf, hu0, hu]) (hE.eqOk t i hi hok).1, hf]
          exact eqFields_sound hE (fun t x y x' y' b => ih t x y x' y' b) hl hl' fs.toList b h
      | _ => rw [hu] at h; cases h

theorem equal_sound (hE : EnvOK P E) {t : TypeId} {x y x' y' : Value} {b : Bool} (h : eqAt E 10000 t x y = some b) (hx : VR μ x x') (hy : VR μ y y') : (Op.equal t x' y').run P w = .ok b w :=
  eqAt_sound hE 10000 t x y x' y' b h hx hy

theorem intOp_sound {op : BinOp} {k : IntKind} {a b : Int} {v : Value} (h : intOp op k a b = some v) (hs : op ≠ .shl) (hr : op ≠ .shr) (t : TypeId) : (binOp op t (.int k a) (.int k b)).run P w = .ok v w ∧ ∃ u, v = u ∧ VR μ v u := by
  have key : (binOp op t (.int k a) (.int k b)).run P w = .ok v w := by
    cases op <;> simp only [intOp, Option.some.injEq] at h <;> first
      | (cases h; done)
      | (subst h; simp [binOp, Op.intArith, Op.intCmp, Op.intBits]; done)
      | (split at h
         · cases h
         · rename_i hb
           simp only [Option.some.injEq] at h
           subst h
           simp [binOp, Op.intDiv, hb])
      | exact absurd rfl hs
      | exact absurd rfl hr
  refine ⟨key, v, rfl, ?_⟩
  cases op <;> simp only [intOp, Option.some.injEq] at h <;> first
    | (cases h; done)
    | (subst h; first | exact .int _ _ | exact .bool _)
    | (split at h
       · cases h
       · simp only [Option.some.injEq] at h; subst h; exact .int _ _)

theorem strOp_sound {op : BinOp} {a b : ByteArray} {v : Value} (h : strOp op a b = some v) (t : TypeId) :
    (binOp op t (.string a) (.string b)).run P w = .ok v w ∧ VR μ v v := by
  have e1 : bytesEq a b = (a.toList == b.toList) := bytesEq_eq a b
  have e2 : bytesLt a b = Op.bytesLess a.toList b.toList := by unfold bytesLt; rw [ByteArray.toList_eq, ByteArray.toList_eq]
  cases op
  case add =>
    simp only [strOp] at h
    cases hb : Nat.blt (Nat.add a.size b.size) big with
    | false => rw [hb] at h; cases h
    | true =>
      rw [hb] at h
      simp only [cond_true, Option.some.injEq] at h
      subst h
      refine ⟨?_, .string _⟩
      have h1 : a.size + b.size < big := by
        have : Nat.add a.size b.size < big := by simpa [Nat.blt_eq] using hb
        exact this
      have h2 : ¬ (((a.size + b.size : Nat) : Int) > IntKind.i64.max) := by
        have e : IntKind.i64.max = 9223372036854775807 := by decide
        rw [e]
        unfold big at h1
        omega
      simp only [binOp, Op.stringOp]
      rw [if_neg h2]
      rfl
  all_goals simp only [strOp, Option.some.injEq] at h
  all_goals first
    | (cases h; done)
    | (subst h
       refine ⟨?_, by first | exact .string _ | exact .bool _⟩
       simp [binOp, Op.stringOp, e1, e2])

theorem eqGuard_sound (hE : EnvOK P E) {op : BinOp} {t : TypeId} {x y : Operand} {a b : Value}
    (hn : ¬ (a = .nilIface ∧ b = .nilIface) ∨ (isConst x || isConst y) = true) (hg : (∃ p q, a = .agg p ∧ b = .agg q) → P.eqGuardType P.depth t = false) :
    (eqGuard op t x y a b).run P w = .ok () w := by
  unfold eqGuard
  cases op <;> first | rfl | skip
  all_goals (cases a <;> first | rfl | (cases b <;> first | rfl | skip))
  all_goals first
    | (have hc : (isConst x || isConst y) = true := by
         rcases hn with g | g
         · exact absurd ⟨rfl, rfl⟩ g
         · exact g
       cases x <;> cases y <;> first | rfl | (simp [isConst] at hc))
    | (rename_i p q
       have := hg ⟨p, q, rfl, rfl⟩
       simp only [Bool.not_true, Bool.false_eq_true, if_false, Sem.run_bind, run_program, Result.andThen_ok, this, Bool.not_false, if_true, Sem.run_pure])

theorem isIface_spec (hE : EnvOK P E) {t : TypeId} (h : isIface E t = true) : ∃ ms, P.underlying t = some (.interface ms) := by
  unfold isIface at h
  cases hi : E.ti.get t with
  | none => rw [hi] at h; cases h
  | some i =>
    rw [hi] at h
    simp only [] at h
    cases hu : i.und with
    | interface ms => exact ⟨ms, by rw [hE.und t i hi, hu]⟩
    | _ => rw [hu] at h; cases h

theorem run_equal_nil {t : TypeId} {ms : Array (String × TypeId)} (h : P.underlying t = some (.interface ms)) : (Op.equal t .nilIface .nilIface).run P w = .ok true w := by
  have key : ∀ d, (Op.equalIn (d + 1) t .nilIface .nilIface).run P w = .ok true w := fun d => by simp [Op.equalIn, run_underlying h]
  exact key 9999

theorem eqAt_chan_l (d : Nat) (t : TypeId) (i : Option Nat) (y : Value) : eqAt E d t (.chan i) y = none := by
  cases d with
  | zero => rfl
  | succ d =>
    simp only [eqAt]
    cases E.ti.get t with
    | none => rfl
    | some ti => simp only []; cases ti.und <;> rfl

theorem eqAt_chan_r (d : Nat) (t : TypeId) (i : Option Nat) (x : Value) : eqAt E d t x (.chan i) = none := by
  cases d with
  | zero => rfl
  | succ d =>
    simp only [eqAt]
    cases E.ti.get t with
    | none => rfl
    | some ti =>
      simp only []
      cases ti.und <;> first | rfl | (cases x <;> first | rfl | (rename_i a; cases a <;> rfl) | (rename_i a _ _; cases a <;> rfl))

theorem eqAt_low_l (d : Nat) (t : TypeId) (k : FloatKind) (i : Nat) (y : Value) : eqAt E d t (.float k i) y = none := by
  cases d with
  | zero => rfl
  | succ d =>
    simp only [eqAt]
    cases E.ti.get t with
    | none => rfl
    | some ti => simp only []; cases ti.und <;> rfl

theorem eqAt_low_r (d : Nat) (t : TypeId) (k : FloatKind) (i : Nat) (x : Value) : eqAt E d t x (.float k i) = none := by
  cases d with
  | zero => rfl
  | succ d =>
    simp only [eqAt]
    cases E.ti.get t with
    | none => rfl
    | some ti =>
      simp only []
      cases ti.und <;> first | rfl | (cases x <;> first | rfl | (rename_i a; cases a <;> rfl) | (rename_i a _ _; cases a <;> rfl))

theorem eqAt_high_l (d : Nat) (t : TypeId) (k : FloatKind) (f i : Nat) (y : Value) : eqAt E d t (.complex k f i) y = none := by
  cases d with
  | zero => rfl
  | succ d =>
    simp only [eqAt]
    cases E.ti.get t with
    | none => rfl
    | some ti => simp only []; cases ti.und <;> rfl

theorem eqAt_high_r (d : Nat) (t : TypeId) (k : FloatKind) (f i : Nat) (x : Value) : eqAt E d t x (.complex k f i) = none := by
  cases d with
  | zero => rfl
  | succ d =>
    simp only [eqAt]
    cases E.ti.get t with
    | none => rfl
    | some ti =>
      simp only []
      cases ti.und <;> first | rfl | (cases x <;> first | rfl | (rename_i a; cases a <;> rfl) | (rename_i a _ _; cases a <;> rfl))

/-- What an equality that is decided says of the operands. -/
theorem eqAt_agg {d : Nat} {t : TypeId} {a c : Array Value} {b : Bool} (hE : EnvOK P E) (h : eqAt E (d + 1) t (.agg a) (.agg c) = some b) : P.eqGuardType P.depth t = false := by
  simp only [eqAt] at h
  cases hi : E.ti.get t with
  | none => rw [hi] at h; cases h
  | some i =>
    rw [hi] at h
    simp only [] at h
    cases hu : i.und <;> rw [hu] at h <;> first | (cases h; done) | skip
    simp only [] at h
    cases hok : i.eqOk with
    | false => rw [hok] at h; cases h
    | true => exact (hE.eqOk t i hi hok).2

theorem shift_sound {op : BinOp} {k : IntKind} {a b : Int} {yk : IntKind} {t : TypeId} (hb : ¬ b < 0) (ho : op = .shl ∨ op = .shr) :
    (binOp op t (.int k a) (.int yk b)).run P w = .ok (match op with | .shl => .int k (k.wrap (a * 2 ^ (min b.toNat k.bits))) | _ => .int k (a.fdiv (2 ^ (min b.toNat k.bits)))) w := by
  rcases ho with rfl | rfl <;> simp [binOp, Op.shift, hb]

theorem binEq_sound (hE : EnvOK P E) {t : TypeId} {x y x' y' : Value} {ox oy : Operand} {b : Bool} (hb : eqAt E 10000 t x y = some b) (hx : VR μ x x') (hy : VR μ y y') (h1 : ¬ (x = .nilIface ∧ y = .nilIface))
    (h2 : ∀ k a j c, ¬ (x = .int k a ∧ y = .int j c)) (h3 : ∀ a c, ¬ (x = .string a ∧ y = .string c)) :
    (∀ op, (eqGuard op t ox oy x' y').run P w = .ok () w) ∧ (binOp .eql t x' y').run P w = .ok (.bool b) w ∧ (binOp .neq t x' y').run P w = .ok (.bool (!b)) w := by
  have he := equal_sound (w := w) hE hb hx hy
  have hg : ∀ a c, x = .agg a → y = .agg c → P.eqGuardType P.depth t = false := by
    intro a c ea ec
    rw [ea, ec] at hb
    exact eqAt_agg (d := 9999) hE hb
  cases hx with
  | opq i v h hf => rw [eqAt_chan_l] at hb; cases hb
  | low k lb n h => rw [eqAt_low_l] at hb; cases hb
  | high k f ub n h => rw [eqAt_high_l] at hb; cases hb
  | _ =>
    cases hy with
    | opq i v h hf => rw [eqAt_chan_r] at hb; cases hb
    | low k lb n h => rw [eqAt_low_r] at hb; cases hb
    | high k f ub n h => rw [eqAt_high_r] at hb; cases hb
    | _ =>
      refine ⟨fun op => eqGuard_sound hE (.inl ?_) ?_, ?_, ?_⟩
      · rintro ⟨e1, e2⟩
        first
          | (cases e1; done)
          | (cases e2; done)
          | exact h1 ⟨rfl, rfl⟩
      · rintro ⟨p, q, e1, e2⟩
        first
          | (cases e1; done)
          | (cases e2; done)
          | exact hg _ _ rfl rfl
      · first
          | exact absurd ⟨rfl, rfl⟩ (h2 _ _ _ _)
          | exact absurd ⟨rfl, rfl⟩ (h3 _ _)
          | (show ((Op.equal t _ _) >>= fun r => pure (Value.bool r)).run P w = _
             rw [Sem.run_bind, he]; rfl)
      · first
          | exact absurd ⟨rfl, rfl⟩ (h2 _ _ _ _)
          | exact absurd ⟨rfl, rfl⟩ (h3 _ _)
          | (show ((Op.equal t _ _) >>= fun r => pure (Value.bool (!r))).run P w = _
             rw [Sem.run_bind, he]; rfl)

theorem binOp_sound (hE : EnvOK P E) {op : BinOp} {t : TypeId} {x y x' y' v : Value} {ox oy : Operand} (h : binOpA E op t x y (isConst ox || isConst oy) = some v) (hx : VR μ x x') (hy : VR μ y y') :
    Pur P μ w (do eqGuard op t ox oy x' y'; binOp op t x' y') v := by
  unfold Pur
  simp only [Sem.run_bind]
  have gi : ∀ (k : IntKind) (a : Int) (b : Value), (eqGuard op t ox oy (.int k a) b).run P w = .ok () w := fun k a b =>
    eqGuard_sound hE (.inl (by rintro ⟨e, _⟩; cases e)) (by rintro ⟨p, q, e, _⟩; cases e)
  have gs : ∀ (a : ByteArray) (b : Value), (eqGuard op t ox oy (.string a) b).run P w = .ok () w := fun a b =>
    eqGuard_sound hE (.inl (by rintro ⟨e, _⟩; cases e)) (by rintro ⟨p, q, e, _⟩; cases e)
  unfold binOpA at h
  split at h
  · cases hx; cases hy
    cases hc : ((isConst ox || isConst oy) && isIface E t) with
    | false => rw [hc] at h; cases h
    | true =>
      rw [hc] at h
      simp only [cond_true, Option.some.injEq] at h
      subst h
      rw [Bool.and_eq_true] at hc
      obtain ⟨ms, hms⟩ := isIface_spec hE hc.2
      refine ⟨.bool true, ?_, .bool _⟩
      rw [eqGuard_sound hE (.inr hc.1) (by rintro ⟨p, q, hp, _⟩; cases hp)]
      simp [binOp, run_equal_nil hms]
  · cases hx; cases hy
    cases hc : ((isConst ox || isConst oy) && isIface E t) with
    | false => rw [hc] at h; cases h
    | true =>
      rw [hc] at h
      simp only [cond_true, Option.some.injEq] at h
      subst h
      rw [Bool.and_eq_true] at hc
      obtain ⟨ms, hms⟩ := isIface_spec hE hc.2
      refine ⟨.bool false, ?_, .bool _⟩
      rw [eqGuard_sound hE (.inr hc.1) (by rintro ⟨p, q, hp, _⟩; cases hp)]
      simp [binOp, run_equal_nil hms]
  · rename_i k a k' b
    split at h
    · cases h
    · rename_i hb
      simp only [Option.some.injEq] at h
      subst h
      cases hx; cases hy
      rw [gi]
      refine ⟨_, ?_, .int _ _⟩
      simp only [Result.andThen_ok]
      exact shift_sound hb (.inl rfl)
  · rename_i k a k' b
    split at h
    · cases h
    · rename_i hb
      simp only [Option.some.injEq] at h
      subst h
      cases hx; cases hy
      rw [gi]
      refine ⟨_, ?_, .int _ _⟩
      simp only [Result.andThen_ok]
      exact shift_sound hb (.inr rfl)
  · rename_i k a k' b hs hr
    split at h
    · rename_i hk
      subst hk
      cases hx; cases hy
      rw [gi]
      obtain ⟨e, u, rfl, hu⟩ := intOp_sound (μ := μ) (w := w) (P := P) h hs hr t
      exact ⟨_, by simpa using e, hu⟩
    · cases h
  · rename_i a b _
    cases hx; cases hy
    rw [gs]
    obtain ⟨e, hu⟩ := strOp_sound (μ := μ) (w := w) (P := P) h t
    exact ⟨_, by simpa using e, hu⟩
  · cases h
  · cases h
  · rename_i hni2 hni hint hstr
    cases hb : eqAt E 10000 t x y with
    | none => rw [hb] at h; cases h
    | some b =>
      rw [hb] at h
      simp only [Option.map_some, Option.some.injEq] at h
      subst h
      obtain ⟨g1, g2, _⟩ := binEq_sound (w := w) (ox := ox) (oy := oy) hE hb hx hy (by rintro ⟨rfl, rfl⟩; exact hni rfl rfl) (by rintro k a j c ⟨rfl, rfl⟩; exact hint _ _ _ _ rfl rfl) (by rintro a c ⟨rfl, rfl⟩; exact hstr _ _ rfl rfl) 
      exact ⟨_, by rw [g1]; simpa using g2, .bool _⟩
  · rename_i hni2 hni hint hstr
    cases hb : eqAt E 10000 t x y with
    | none => rw [hb] at h; cases h
    | some b =>
      rw [hb] at h
      simp only [Option.map_some, Option.some.injEq] at h
      subst h
      obtain ⟨g1, _, g2⟩ := binEq_sound (w := w) (ox := ox) (oy := oy) hE hb hx hy (by rintro ⟨rfl, rfl⟩; exact hni rfl rfl) (by rintro k a j c ⟨rfl, rfl⟩; exact hint _ _ _ _ rfl rfl) (by rintro a c ⟨rfl, rfl⟩; exact hstr _ _ rfl rfl) 
      exact ⟨_, by rw [g1]; simpa using g2, .bool _⟩
  · cases h

theorem binOpC_sound (hE : EnvOK P E) {op : BinOp} {t : TypeId} {x y x' y' v : Value} {ox oy : Operand} (h : binOpC E op t x y (isConst ox || isConst oy) = some v) (hx : VR μ x x') (hy : VR μ y y') :
    Pur P μ w (do eqGuard op t ox oy x' y'; binOp op t x' y') v := by
  unfold binOpC at h
  split at h
  · split at h
    · split at h
      · rename_i hle
        simp only [Option.some.injEq] at h
        subst h
        cases hx
        cases hy with
        | low _ _ n hn =>
          rename_i a
          have hf : decide (a > n) = false := by
            have : ¬ a > n := by omega
            simpa using this
          have := binOp_sound (w := w) (μ := μ) (P := P) (t := t) (op := .gtr) (ox := ox) (oy := oy) (x := .int .i64 a) (y := .int .i64 n) (v := .bool (decide (a > n))) hE (by simp [binOpA, intOp]) (.int _ _) (.int _ _)
          rw [hf] at this
          exact this
      · cases h
    · cases h
  · split at h
    · split at h
      · split at h
        · rename_i b _ _ f ub _ hc
          simp only [Option.some.injEq] at h
          subst h
          cases hy
          cases hx with
          | high _ _ _ n hn =>
            have hf : decide (n < b) = true := by
              have := hn hc.1
              have : n < b := by omega
              simpa using this
            have := binOp_sound (w := w) (μ := μ) (P := P) (t := t) (op := .lss) (ox := ox) (oy := oy) (x := .int .i64 n) (y := .int .i64 b) (v := .bool (decide (n < b))) hE (by simp [binOpA, intOp]) (.int _ _) (.int _ _)
            rw [hf] at this
            exact this
        · cases h
      · cases h
    · exact binOp_sound hE h hx hy
  · exact binOp_sound hE h hx hy

theorem unA_sound {op : UnOp} {x x' v : Value} (h : unA op x = some v) (hx : VR μ x x') : Pur P μ w (Op.unary op x') v := by
  unfold unA at h
  split at h
  · cases hx
    simp only [Option.some.injEq] at h
    subst h
    exact ⟨_, by simp [Op.unary, Op.intArith], .int _ _⟩
  · cases hx
    simp only [Option.some.injEq] at h
    subst h
    exact ⟨_, by simp [Op.unary], .bool _⟩
  · cases hx
    simp only [intOp, Option.some.injEq] at h
    subst h
    exact ⟨_, by simp [Op.unary, Op.intBits], .int _ _⟩
  · cases h

/-! ### Slices -/
theorem bnd_sound {x x' : Value} {y Y n : Nat} (h : bnd x y = some n) (hx : VR μ x x') (hy : y ≤ Y) : (∀ c, (Instr.sliceBound x' Y c).run P w = .ok n w) ∧ n ≤ y := by
  unfold bnd at h
  cases hi : intOf x with
  | none => rw [hi] at h; cases h
  | some i =>
    rw [hi] at h
    simp only [] at h
    by_cases hc : 0 ≤ i ∧ i ≤ (y : Int)
    · rw [if_pos hc] at h
      simp only [Option.some.injEq] at h
      subst h
      obtain ⟨k, rfl⟩ := intOf_VR hi hx
      have h2 : i ≤ (Y : Int) := by omega
      exact ⟨fun c => by simp [Instr.sliceBound, asIntOf, hc.1, h2], by omega⟩
    · rw [if_neg hc] at h; cases h

/-- The bounds, on the model's side: its capacity is 'cap'' (at least 'top'). -/
theorem bounds_sound {isSlice : Bool} {top len cap cap' l h m : Nat} {lo hi mx lo' hi' mx' : Option Value} (hb : boundsA top len cap lo hi mx = some (l, h, m)) (hlo : OptR μ lo lo') (hhi : OptR μ hi hi')
    (hmx : OptR μ mx mx') (ht : top ≤ cap') : ∃ m', (Instr.sliceBounds isSlice len cap' lo' hi' mx').run P w = .ok (l, h, m') w ∧ l ≤ h ∧
      ((mx = none ∧ m = cap ∧ m' = cap' ∧ (h ≤ top ∨ h = len)) ∨ (mx ≠ none ∧ m' = m ∧ m ≤ top ∧ h ≤ m)) := by
  unfold boundsA at hb
  -- the lower bound, the same for all
  have low : ∀ (h0 : Nat) (l0 : Nat), bndOr lo h0 (some 0) = some l0 → (∀ c, ((match lo' with | some v => Instr.sliceBound v h0 c | none => pure 0 : Sem Nat)).run P w = .ok l0 w) ∧ l0 ≤ h0 := by
    intro h0 l0 hl
    cases lo with
    | none =>
      cases hlo
      simp only [bndOr, Option.some.injEq] at hl
      subst hl
      exact ⟨fun _ => rfl, Nat.zero_le _⟩
    | some v =>
      obtain ⟨u, rfl, hu⟩ := hlo
      exact bnd_sound hl hu (Nat.le_refl _)
  cases hm0 : bndOr mx top (some cap) with
  | none => rw [hm0] at hb; cases hb
  | some m0 =>
    rw [hm0] at hb
    simp only [] at hb
    cases hh0 : bndOr hi (min m0 top) (cond mx.isNone (some len) none) with
    | none => rw [hh0] at hb; cases hb
    | some h0 =>
      rw [hh0] at hb
      simp only [] at hb
      cases hl0 : bndOr lo h0 (some 0) with
      | none => rw [hl0] at hb; cases hb
      | some l0 =>
        rw [hl0] at hb
        simp only [Option.some.injEq, Prod.mk.injEq] at hb
        obtain ⟨rfl, rfl, rfl⟩ := hb
        obtain ⟨hlow, hle⟩ := low _ _ hl0
        unfold Instr.sliceBounds
        cases mx with
        | none =>
          cases hmx
          simp only [bndOr, Option.some.injEq] at hm0
          subst hm0
          cases hi with
          | none =>
            cases hhi
            simp only [bndOr, Option.isNone_none, cond_true, Option.some.injEq] at hh0
            subst hh0
            refine ⟨cap', ?_, hle, .inl ⟨rfl, rfl, rfl, .inr rfl⟩⟩
            simp only [Sem.run_bind, Sem.run_pure, Result.andThen_ok]
            have := hlow .sliceB
            cases lo' <;> simp_all
          | some v =>
            obtain ⟨u, rfl, hu⟩ := hhi
            have hh : bnd v (min cap top) = some h0 := hh0
            obtain ⟨hr, hn⟩ := bnd_sound (P := P) (w := w) (Y := cap') hh hu (by omega)
            refine ⟨cap', ?_, hle, .inl ⟨rfl, rfl, rfl, .inl (by omega)⟩⟩
            simp only [Sem.run_bind, Sem.run_pure, Result.andThen_ok, hr]
            have := hlow .sliceB
            cases lo' <;> simp_all
        | some vm =>
          obtain ⟨um, rfl, hum⟩ := hmx
          have hm1 : bnd vm top = some m0 := hm0
          obtain ⟨hrm, hnm⟩ := bnd_sound (P := P) (w := w) (Y := cap') hm1 hum ht
          cases hi with
          | none => cases hh0
          | some v =>
            obtain ⟨u, rfl, hu⟩ := hhi
            have hh : bnd v (min m0 top) = some h0 := hh0
            obtain ⟨hr, hn⟩ := bnd_sound (P := P) (w := w) (Y := m0) hh hu (by omega)
            refine ⟨m0, ?_, hle, .inr ⟨by simp, rfl, hnm, by omega⟩⟩
            simp only [Sem.run_bind, Sem.run_pure, Result.andThen_ok, hrm, hr]
            have := hlow .slice3C
            cases lo' <;> simp_all

end pure
end Go.Det
