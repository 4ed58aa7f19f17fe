/- Regions that draw their order. -/
import Derived.Test.YtofiafmbiedjnaaGreatDoorDetRun
set_option autoImplicit false
namespace Go.Det

section
variable {P : Program} {E : Env}

/-- An abstract block that is not laid yet. -/
theorem HR.ghost {μ : Ren} {st st' : St} {h : Array Obj} {base : Nat} {o : AObj} (hr : HR μ st h base) (hl : Lays st o st') : HR μ st' h base := by
  obtain ⟨l1, l2, l3⟩ := hl
  have hf := hr.fresh st.next (Nat.le_refl _)
  have hne : ∀ b L, μ b = some L → b ≠ st.next := fun b L hb e => by rw [e, hf] at hb; cases hb
  refine ⟨fun b hb => hr.fresh b (by omega), hr.inn, ?_, ?_, ?_, ?_, ?_, hr.le⟩
  · intro b p hp
    rw [l2] at hp
    by_cases e : b = st.next
    · omega
    · rw [if_neg e] at hp; have := hr.heapIn b p hp; omega
  · intro b L p hb hp
    rw [l2, if_neg (hne b L hb)] at hp
    exact hr.obj b L p hb hp
  · intro b c L M p q hb hc hp hq lp lq hbc hblk
    rw [l2, if_neg (hne b L hb)] at hp
    rw [l2, if_neg (hne c M hc)] at hq
    exact hr.sep b c L M p q hb hc hp hq lp lq hbc hblk
  · intro b p k hp hk
    rw [l2] at hp
    by_cases e : b = st.next
    · rw [if_pos e] at hp; cases hp
      rcases l3 with ⟨h0, _⟩ | ⟨h1, h2⟩
      · rw [h0] at hk; cases hk
      · rw [h1] at hk; cases hk
        exact ⟨by omega, [st.next], by rw [h2]; simp, by simp [e]⟩
    · rw [if_neg e] at hp
      obtain ⟨a, l, g, m⟩ := hr.cls b p k hp hk
      refine ⟨by omega, l, ?_, m⟩
      rcases l3 with ⟨_, h0⟩ | ⟨_, h2⟩
      · rw [h0]; exact g
      · rw [h2, if_neg (by omega)]; exact g
  · intro k l b hk hb
    rcases l3 with ⟨_, h0⟩ | ⟨_, h2⟩
    · rw [h0] at hk; exact hr.clsIn k l b hk hb
    · rw [h2] at hk
      by_cases e : k = st.next
      · rw [if_pos e] at hk; cases hk
        have : b = st.next := by simpa using hb
        exact .inr (by rw [this])
      · rw [if_neg e] at hk; exact hr.clsIn k l b hk hb

/-- It is laid now. -/
theorem HR.late {μ : Ren} {st : St} {h : Array Obj} {base b : Nat} {o : AObj} {L : Loc} {o' : Obj} (hr : HR μ st h base) (hb : b < st.next) (hm : μ b = none) (ho : st.heap.get b = some o) (hL : L.blk = h.size)
    (hobj : ObjR (upd μ b L) o L o') : HR (upd μ b L) st (h.push o') base := by
  have hsub : Sub μ (upd μ b L) := sub_upd L hm
  refine ⟨?_, ?_, hr.heapIn, ?_, ?_, hr.cls, ?_, by have := hr.le; simp; omega⟩
  · intro c hc
    rw [upd_ne μ L (by omega)]
    exact hr.fresh c hc
  · intro c M hM
    by_cases e : c = b
    · subst e; rw [upd_self] at hM; cases hM
      exact ⟨hL ▸ hr.le, by simp [hL]⟩
    · rw [upd_ne μ L e] at hM
      obtain ⟨x, y⟩ := hr.inn c M hM
      exact ⟨x, by simp; omega⟩
  · intro c M p hM hp
    by_cases e : c = b
    · subst e; rw [upd_self] at hM; cases hM
      rw [ho] at hp; cases hp
      exact ⟨o', by rw [hL]; simp, hobj⟩
    · rw [upd_ne μ L e] at hM
      obtain ⟨p', x, y⟩ := hr.obj c M p hM hp
      have hlt := (hr.inn c M hM).2
      exact ⟨p', by rw [Array.getElem?_push_lt hlt]; rw [Array.getElem?_eq_getElem hlt] at x; exact x, y.mono hsub⟩
  · intro c d M N p q hM hN hp hq lp lq hne hblk
    by_cases e : c = b
    · have e' : d ≠ b := fun x => hne (e.trans x.symm)
      subst e; rw [upd_self] at hM; cases hM
      rw [upd_ne μ L e'] at hN
      have := (hr.inn d N hN).2
      omega
    · by_cases e' : d = b
      · subst e'; rw [upd_self] at hN; cases hN
        rw [upd_ne μ L e] at hM
        have := (hr.inn c M hM).2
        omega
      · rw [upd_ne μ L e] at hM; rw [upd_ne μ L e'] at hN
        exact hr.sep c d M N p q hM hN hp hq lp lq hne hblk
  · intro k l c hk hc
    rcases hr.clsIn k l c hk hc with ⟨M, hM⟩ | g
    · exact .inl ⟨M, hsub.1 _ _ hM⟩
    · exact .inr g

/-- What an operation that has been gone through, and not been done yet, will come to. -/
def Pend (E : Env) (ops : Array Oper) (t0 : Nat → Value) (n0 : Nat) (st : St) (recs : List Rec) (blk : Nat → Option Nat) (μ : Ren) (x : Item) (v : Value) (old : List (Item × Value)) : Prop :=
  (wantedA x.o ops (atD (fun _ => true) t0 old) = false ∧ v = undefV) ∨
  (wantedA x.o ops (atD (fun _ => true) t0 old) = true ∧
    (Idle E (atD (fun _ => true) t0 old) x.o.op (.val v) ∨
     (kindOf E x.o.op = .reads ∧ ∃ r ∈ recs, r.x = x ∧ r.v = v ∧ r.ρ = atD (fun _ => true) t0 old) ∨
     (kindOf E x.o.op = .makes ∧ ∃ s s' o, execA E (atD (fun _ => true) t0 old) s x.o.op = some (.val v, s') ∧ s'.heap.get s.next = some o ∧ blk x.ix = some s.next ∧ n0 ≤ s.next ∧ s.next < st.next ∧ μ s.next = none ∧
        st.heap.get s.next = some o ∧ isLive o = true)))

theorem Pend.mono {ops : Array Oper} {t0 : Nat → Value} {n0 : Nat} {st st' : St} {recs recs' : List Rec} {blk blk' : Nat → Option Nat} {μ μ' : Ren} {x : Item} {v : Value} {old : List (Item × Value)} (h : Pend E ops t0 n0 st recs blk μ x v old)
    (hn : st.next ≤ st'.next) (hg : ∀ b, blk x.ix = some b → b < st.next → μ b = none → μ' b = none ∧ st'.heap.get b = st.heap.get b) (hrec : ∀ r ∈ recs, r.x = x → r ∈ recs') (hblk : ∀ b, blk x.ix = some b → blk' x.ix = some b) :
    Pend E ops t0 n0 st' recs' blk' μ' x v old := by
  rcases h with h | ⟨hw, h | ⟨hk, r, hr, h1, h2, h3⟩ | ⟨hk, s, s', o, h1, h2, h3, h4, h5, h6, h7, h8⟩⟩
  · exact .inl h
  · exact .inr ⟨hw, .inl h⟩
  · exact .inr ⟨hw, .inr (.inl ⟨hk, r, hrec r hr h1, h1, h2, h3⟩)⟩
  · obtain ⟨g1, g2⟩ := hg _ h3 h5 h6
    exact .inr ⟨hw, .inr (.inr ⟨hk, s, s', o, h1, h2, hblk _ h3, h4, by omega, g1, g2.trans h7, h8⟩)⟩

structure Inv (E : Env) (ops : Array Oper) (flat : List Item) (t0 : Nat → Value) (nt : Nat) (μ0 : Ren) (st0 : St) (w0 : World) (base : Nat) (D : Nat → Bool) (log : List (Item × Value)) (t : Tr Value) (st : St) (recs : List Rec)
    (blk : Nat → Option Nat) (μ : Ren) (w : World) : Prop where
  lk : ∀ i, look t i = atD (fun _ => true) t0 log i
  pend : ∀ new x v old, log = new ++ (x, v) :: old → D x.ix = false → Pend E ops t0 st0.next st recs blk μ x v old
  inj : ∀ i j b, blk i = some b → blk j = some b → i = j
  bl : ∀ i b, blk i = some b → b < st.next
  dst : ∀ p ∈ log, ∀ d, p.1.dst = some d → d < nt
  hr : HR μ st w.heap base
  ex : Ex μ0 st0 w0 μ st w base

theorem look_put {nt : Nat} {t t' : Tr Value} {dst : Option Tmp} {v : Value} (h : put nt t dst v = some t') (i : Nat) : look t' i = (if dst = some i then v else look t i) ∧ ∀ d, dst = some d → d < nt := by
  cases dst with
  | none => simp only [put, Option.some.injEq] at h; subst h; exact ⟨by simp, fun d e => by cases e⟩
  | some d =>
    unfold put at h
    simp only [] at h
    cases hb : Nat.blt d nt with
    | false => rw [hb] at h; cases h
    | true =>
      rw [hb] at h
      simp only [cond_true] at h
      refine ⟨?_, fun d' e => by cases e; simpa [Nat.blt_eq] using hb⟩
      rw [look_set h]
      by_cases e : i = d
      · simp [e]
      · have e' : ¬ d = i := fun g => e g.symm
        simp [e, e']

theorem kindOf_cases (E : Env) (x : Item) (hk : x.kd = kindOf E x.o.op) (ha : isAct x = false) : kindOf E x.o.op = .pure ∨ kindOf E x.o.op = .reads ∨ kindOf E x.o.op = .makes := by
  unfold isAct at ha
  rw [hk] at ha
  cases hq : kindOf E x.o.op with
  | pure => exact .inl rfl
  | reads => exact .inr (.inl rfl)
  | makes => exact .inr (.inr rfl)
  | acts => rw [hq] at ha; cases ha

section inv
variable {ops : Array Oper} {flat : List Item} {t0 : Nat → Value} {nt : Nat} {μ0 : Ren} {st0 : St} {w0 : World} {base : Nat} {D : Nat → Bool}

/-- Items are gone through. -/
theorem Inv.items (hE : EnvOK P E) (ho : orderOk flat = true) {μ : Ren} {w : World} {rest : List Item} {t1 : Tr Value} {st1 : St} {recs1 : List Rec} :
    ∀ (xs : List Item) (log : List (Item × Value)) (t : Tr Value) (st : St) (recs : List Rec) (blk : Nat → Option Nat), Inv E ops flat t0 nt μ0 st0 w0 base D log t st recs blk μ w →
      runItems E nt ops xs t st recs = some (t1, st1, recs1) → flat = (log.map (·.1)).reverse ++ (xs ++ rest) → (∀ x ∈ xs, D x.ix = false ∧ isAct x = false ∧ x.kd = kindOf E x.o.op ∧ x.dst = x.o.dst) →
      ∃ log1 blk1, Inv E ops flat t0 nt μ0 st0 w0 base D log1 t1 st1 recs1 blk1 μ w ∧ flat = (log1.map (·.1)).reverse ++ rest ∧ ∀ i, atD D t0 log1 i = atD D t0 log i := by
  intro xs
  induction xs with
  | nil =>
    intro log t st recs blk hI h hf _
    simp only [runItems, Option.some.injEq, Prod.mk.injEq] at h
    obtain ⟨rfl, rfl, rfl⟩ := h
    exact ⟨log, blk, hI, hf, fun _ => rfl⟩
  | cons x xs ih =>
    intro log t st recs blk hI h hf hx
    obtain ⟨hxD, hxa, hxk, hxd⟩ := hx x (by simp)
    have hlook : look t = atD (fun _ => true) t0 log := funext hI.lk
    have hnew : ∀ new y v old, log = new ++ (y, v) :: old → y.ix ≠ x.ix := by
      intro new y v old e
      have hp : flat = (old.map (·.1)).reverse ++ y :: ((new.map (·.1)).reverse ++ x :: (xs ++ rest)) := by rw [hf, e]; simp
      exact (orderOk_pair ho _ _ _ _ _ hp).1
    have hskip : ∀ v i, atD D t0 ((x, v) :: log) i = atD D t0 log i := by
      intro v i; simp [atD, hxD]
    have hf' : ∀ v : Value, flat = (((x, v) :: log).map (·.1)).reverse ++ (xs ++ rest) := by intro v; rw [hf]; simp
    have go : ∀ (v : Value) (t' : Tr Value) (st' : St) (recs' : List Rec) (blk' : Nat → Option Nat), put nt t x.dst v = some t' → runItems E nt ops xs t' st' recs' = some (t1, st1, recs1) → Pend E ops t0 st0.next st' recs' blk' μ x v log →
        st.next ≤ st'.next → (∀ b, b < st.next → st'.heap.get b = st.heap.get b) → (∀ r ∈ recs, r ∈ recs') → (∀ i, i ≠ x.ix → blk' i = blk i) → (∀ i j b, blk' i = some b → blk' j = some b → i = j) → (∀ i b, blk' i = some b → b < st'.next) →
        HR μ st' w.heap base → ∃ log1 blk1, Inv E ops flat t0 nt μ0 st0 w0 base D log1 t1 st1 recs1 blk1 μ w ∧ flat = (log1.map (·.1)).reverse ++ rest ∧ ∀ i, atD D t0 log1 i = atD D t0 log i := by
      intro v t' st' recs' blk' hput hrun hpend hn hheap hrecs hblk hinj hbl hhr
      have hI' : Inv E ops flat t0 nt μ0 st0 w0 base D ((x, v) :: log) t' st' recs' blk' μ w := by
        refine ⟨fun i => ?_, ?_, hinj, hbl, ?_, hhr, ?_⟩
        · rw [(look_put hput i).1, hI.lk]
          simp [atD]
        · intro new y u old e hy
          cases new with
          | nil =>
            simp only [List.nil_append, List.cons.injEq, Prod.mk.injEq] at e
            obtain ⟨⟨rfl, rfl⟩, rfl⟩ := e
            exact hpend
          | cons z new =>
            simp only [List.cons_append, List.cons.injEq] at e
            obtain ⟨rfl, e⟩ := e
            have hne := hnew new y u old e
            exact (hI.pend new y u old e hy).mono hn (fun b _ hb hm => ⟨hm, hheap b hb⟩) (fun r hr _ => hrecs r hr) (fun b hb => by rw [hblk _ hne]; exact hb)
        · intro p hp d hd
          rcases List.mem_cons.1 hp with rfl | hp
          · exact (look_put hput 0).2 d hd
          · exact hI.dst p hp d hd
        · have h0 := hI.ex
          exact ⟨h0.sub, fun b hb hm => ⟨(h0.ghost b hb hm).1, (hheap b (Nat.lt_of_lt_of_le hb h0.next)).trans (h0.ghost b hb hm).2⟩, Nat.le_trans h0.next hn, h0.frame, h0.size, h0.os, h0.output⟩
      obtain ⟨log1, blk1, i1, i2, i3⟩ := ih ((x, v) :: log) t' st' recs' blk' hI' hrun (hf' v) (fun y hy => hx y (by simp [hy]))
      exact ⟨log1, blk1, i1, i2, fun i => (i3 i).trans (hskip v i)⟩
    simp only [runItems] at h
    cases hw : wantedA x.o ops (look t) with
    | false =>
      rw [hw] at h
      simp only [cond_false] at h
      cases hp : put nt t x.dst undefV with
      | none => rw [hp] at h; cases h
      | some t' =>
        rw [hp] at h
        rw [hlook] at hw
        exact go undefV t' st recs blk hp h (.inl ⟨hw, rfl⟩) (Nat.le_refl _) (fun _ _ => rfl) (fun _ h => h) (fun _ _ => rfl) hI.inj hI.bl hI.hr
    | true =>
      rw [hw] at h
      simp only [cond_true] at h
      cases he : execA E (look t) st x.o.op with
      | none => rw [he] at h; cases h
      | some q =>
        obtain ⟨res, st'⟩ := q
        rw [he] at h
        cases res with
        | enter f args => cases h
        | round l args => cases h
        | val v =>
          simp only [] at h
          cases hp : put nt t x.dst v with
          | none => rw [hp] at h; cases h
          | some t' =>
            rw [hp] at h
            simp only [] at h
            rw [hlook] at hw he
            rcases kindOf_cases E x hxk hxa with hk | hk | hk
            · obtain ⟨rfl, hid⟩ := pure_kind hk he
              rw [hxk, hk] at h
              exact go v t' st' recs blk hp h (.inr ⟨hw, .inl hid⟩) (Nat.le_refl _) (fun _ _ => rfl) (fun _ h => h) (fun _ _ => rfl) hI.inj hI.bl hI.hr
            · obtain ⟨rfl, _⟩ := reads_kind hk he
              rw [hxk, hk] at h
              exact go v t' st' _ blk hp h (.inr ⟨hw, .inr (.inl ⟨hk, _, List.mem_cons_self, rfl, rfl, hlook⟩)⟩) (Nat.le_refl _) (fun _ _ => rfl) (fun r hr => by simp [hr]) (fun _ _ => rfl) hI.inj hI.bl hI.hr
            · obtain ⟨v2, o, hv2, hl, hlive, _⟩ := makes_kind (P := P) hE hk he
              rw [hxk, hk] at h
              have hl' := hl
              obtain ⟨l1, l2, l3⟩ := hl
              have hn0 : st0.next ≤ st.next := hI.ex.next
              refine go v t' st' recs (fun i => if i = x.ix then some st.next else blk i) hp h (.inr ⟨hw, .inr (.inr ⟨hk, st, st', o, he, by rw [l2]; simp, by simp, hn0, by omega, hI.hr.fresh _ (Nat.le_refl _), by rw [l2]; simp, hlive⟩)⟩) (by omega)
                (fun b hb => by rw [l2, if_neg (by omega)]) (fun _ h => h) (fun i hi => by simp [hi]) ?_ ?_ (hI.hr.ghost hl')
              · intro i j b hi hj
                by_cases ei : i = x.ix
                · by_cases ej : j = x.ix
                  · rw [ei, ej]
                  · simp only [ei, if_true, Option.some.injEq] at hi
                    simp only [ej, if_false] at hj
                    have := hI.bl j b hj
                    omega
                · by_cases ej : j = x.ix
                  · simp only [ej, if_true, Option.some.injEq] at hj
                    simp only [ei, if_false] at hi
                    have := hI.bl i b hi
                    omega
                  · simp only [ei, if_false] at hi
                    simp only [ej, if_false] at hj
                    exact hI.inj i j b hi hj
              · intro i b hi
                by_cases ei : i = x.ix
                · simp only [ei, if_true, Option.some.injEq] at hi
                  omega
                · simp only [ei, if_false] at hi
                  have := hI.bl i b hi
                  omega

end inv

theorem countP_lt {p q : Nat → Bool} {i : Nat} : ∀ {l : List Nat}, (∀ x, p x = true → q x = true) → i ∈ l → q i = true → p i = false → l.countP p < l.countP q
  | [], _, h, _, _ => by cases h
  | a :: l, hpq, hi, h1, h2 => by
    have hle : l.countP p ≤ l.countP q := List.countP_mono_left (fun x _ => hpq x)
    rcases List.mem_cons.1 hi with rfl | hi
    · rw [List.countP_cons_of_neg (by simp [h2]), List.countP_cons_of_pos h1]; omega
    · have ih := countP_lt hpq hi h1 h2
      cases hp : p a with
      | true => rw [List.countP_cons_of_pos hp, List.countP_cons_of_pos (hpq a hp)]; omega
      | false =>
        rw [List.countP_cons_of_neg (by simp [hp])]
        cases hq : q a with
        | true => rw [List.countP_cons_of_pos hq]; omega
        | false => rw [List.countP_cons_of_neg (by simp [hq])]; exact ih

/-- The first of a list that is not done. -/
theorem first_undone {D : Nat → Bool} : ∀ {l : List Item}, (∃ x ∈ l, D x.ix = false) → ∃ pre x post, l = pre ++ x :: post ∧ D x.ix = false ∧ ∀ y ∈ pre, D y.ix = true
  | [], ⟨x, hx, _⟩ => by cases hx
  | a :: l, ⟨x, hx, hd⟩ => by
    cases ha : D a.ix with
    | false => exact ⟨[], a, l, rfl, ha, by simp⟩
    | true =>
      have : ∃ x ∈ l, D x.ix = false := by
        rcases List.mem_cons.1 hx with rfl | hx
        · rw [ha] at hd; cases hd
        · exact ⟨x, hx, hd⟩
      obtain ⟨pre, y, post, e, h1, h2⟩ := first_undone this
      refine ⟨a :: pre, y, post, by rw [e]; rfl, h1, fun z hz => ?_⟩
      rcases List.mem_cons.1 hz with rfl | hz
      · exact ha
      · exact h2 z hz

theorem operA_congr {self : Self} {ρ ρ' : Nat → Value} {st : St} {o : Oper} (h : ∀ t, Operand.tmp t ∈ o.op.operands.toList → ρ t = ρ' t) : operA E self ρ st o = operA E self ρ' st o := by
  unfold operA
  cases hop : o.op with
  | next it s =>
    simp only []
    rw [opd_congr (x := it) (fun t e => h t (by rw [hop]; simp [Op.operands, e]))]
  | _ =>
    rw [hop] at h
    simp only []
    rw [forkA_congr h, execA_congr h]

/-- What comes behind a phase's items. -/
noncomputable def Tail (E : Env) (self : Self) (nt : Nat) (ops : Array Oper) (defs : List Nat) (a : Option Item) (r : List (List Item × Option Item)) (t1 : Tr Value) (st1 : St) (recs1 : List Rec) : Option (List CRes) :=
  match a with
  | none => some [{ e := .normal, t := t1, d := defs, s := st1 }]
  | some a =>
    cond (wantedA a.o ops (look t1))
      (match operA E self (look t1) st1 a.o with
       | some l => collect (fun (x : RRes) => match put nt t1 a.dst x.v with
           | some t2 => runPhases E self nt ops defs r t2 x.s (recs1.filter fun r => !hasBit a.bef r.x.ix)
           | none => none) l
       | none => none)
      (match put nt t1 a.dst undefV with
       | some t2 => runPhases E self nt ops defs r t2 st1 (recs1.filter fun r => !hasBit a.bef r.x.ix)
       | none => none)

theorem runPhases_spec {self : Self} {nt : Nat} {ops : Array Oper} {defs : List Nat} {ps : List (List Item × Option Item)} {t : Tr Value} {st : St} {recs : List Rec} {l : List CRes} (h : runPhases E self nt ops defs ps t st recs = some l) :
    ∃ xs a r t1 st1 recs1, ps = (xs, a) :: r ∧ runItems E nt ops xs t st recs = some (t1, st1, recs1) ∧ recs1.all (recOk E st1) = true ∧ Tail E self nt ops defs a r t1 st1 recs1 = some l := by
  cases ps with
  | nil => cases h
  | cons q r =>
    obtain ⟨xs, a⟩ := q
    rw [runPhases] at h
    cases hi : runItems E nt ops xs t st recs with
    | none => rw [hi] at h; cases h
    | some z =>
      obtain ⟨t1, st1, recs1⟩ := z
      rw [hi] at h
      simp only [] at h
      cases hc : recs1.all (recOk E st1) with
      | false => rw [hc] at h; cases h
      | true =>
        rw [hc] at h
        simp only [cond_true] at h
        exact ⟨xs, a, r, t1, st1, recs1, rfl, hi, hc, by cases a <;> exact h⟩

def restOf (a : Option Item) (r : List (List Item × Option Item)) : List Item := match a with | some a => a :: flatOf r | none => flatOf r

theorem flatOf_cons (xs : List Item) (a : Option Item) (r : List (List Item × Option Item)) : flatOf ((xs, a) :: r) = xs ++ restOf a r := by cases a <;> rfl

def Dl (listed : Array Bool) : Nat → Bool := fun i => listed.getD i false

theorem Dl_set {listed : Array Bool} {i : Nat} (hi : i < listed.size) : Dl (listed.setIfInBounds i true) = fun j => j == i || Dl listed j := by
  funext j
  unfold Dl
  rw [Array.getD_eq_getD_getElem?, Array.getD_eq_getD_getElem?, Array.getElem?_setIfInBounds]
  by_cases e : i = j
  · subst e; simp [hi]
  · have e' : (j == i) = false := by simpa using fun g => e g.symm
    simp [e, e']

theorem drawn_sound (hE : EnvOK P E) {self : Self} {m : Nat} (hS : SelfOK P E self m) {ops : Array Oper} {nt : Nat} {defs : List Nat} {rr : Option Nat} {ps0 : List (List Item × Option Item)} (hplan : PlanIs E ops.toList ps0)
    {t0 : Nat → Value} {μ0 : Ren} {st0 : St} {w0 : World} {base : Nat} {l0 : List CRes} {Q : Exit → Act → World → Prop} (hQ : ∀ e a' w', Post μ0 st0 w0 base nt l0 e a' w' → Q e a' w') :
    ∀ (fuel : Nat) (listed : Array Bool) (a : Option Item) (r : List (List Item × Option Item)) (t1 : Tr Value) (st1 : St) (recs1 : List Rec) (l : List CRes) (log : List (Item × Value)) (blk : Nat → Option Nat) (μ : Ren) (w : World) (act : Act),
      listed.size = ops.size → (List.range ops.size).countP (fun i => !Dl listed i) ≤ fuel → Closed (flatOf ps0) (Dl listed) → Inv E ops (flatOf ps0) t0 nt μ0 st0 w0 base (Dl listed) log t1 st1 recs1 blk μ w →
      flatOf ps0 = (log.map (·.1)).reverse ++ restOf a r → (∀ y ∈ restOf a r, Dl listed y.ix = false) → actsOk (([], a) :: r) = true → recs1.all (recOk E st1) = true → Tail E self nt ops defs a r t1 st1 recs1 = some l → (∀ x ∈ l, x ∈ l0) →
      RR μ (atD (Dl listed) t0 log) act.tmps → act.tmps.size = nt → DefR μ defs act.defers → wpAnyIn (wd rr) 0 P .any ops Q fuel listed act w := by
  have hord := hplan.order
  have hixlt : ∀ x ∈ flatOf ps0, x.ix < ops.size := fun x hx => by
    have := (List.getElem?_eq_some_iff.1 (hplan.item x hx).o).1
    simpa using this
  intro fuel
  induction fuel with
  | zero =>
    intro listed a r t1 st1 recs1 l log blk μ w act hls hcount hcl hI hflat hrest hacts hrec htail hll hρ hn hd
    have hall : ∀ i, i < ops.size → Dl listed i = true := by
      intro i hi
      have h0 : (List.range ops.size).countP (fun i => !Dl listed i) = 0 := by omega
      rw [List.countP_eq_zero] at h0
      have := h0 i (List.mem_range.2 hi)
      simpa using this
    have ha : a = none := by
      cases a with
      | none => rfl
      | some a =>
        have hmem : a ∈ flatOf ps0 := by rw [hflat]; simp [restOf]
        have h1 := hall a.ix (hixlt a hmem)
        have h2 := hrest a (by simp [restOf])
        rw [h1] at h2; cases h2
    subst ha
    simp only [Tail, Option.some.injEq] at htail
    subst htail
    have hq : Q .normal act w := hQ _ _ _ ⟨_, hll _ (List.mem_singleton.2 rfl), μ, rfl, fun i => by
        rw [hI.lk i, ← atD_congr (D := Dl listed) t0 i log (fun p hp _ => hall p.1.ix (hixlt p.1 (by rw [hflat]; simp only [List.mem_append, List.mem_reverse, List.mem_map]; exact .inl ⟨p, hp, rfl⟩)))]
        exact hρ i, hn, hd, hI.hr, hI.ex⟩
    refine ⟨?_, hq⟩
    rw [List.eq_nil_iff_forall_not_mem]
    intro j hj
    obtain ⟨h1, o, h2, _⟩ := mem_ready.1 hj
    have hlt : j < ops.size := (Array.getElem?_eq_some_iff.1 h2).1
    have := hall j hlt
    unfold Dl at this
    rw [Array.getD_eq_getD_getElem?] at this h1
    rw [Array.getElem?_eq_getElem (by omega)] at this h1
    simp only [Option.getD_some] at this h1
    rw [this] at h1; cases h1
  | succ fuel ih =>
    intro listed a r t1 st1 recs1 l log blk μ w act hls hcount hcl hI hflat hrest hacts hrec htail hll hρ hn hd
    refine ⟨fun hready => ?_, ?_⟩
    · -- nothing is ready: all is done
      have hdone : ∀ x ∈ flatOf ps0, Dl listed x.ix = true := by
        intro x hx
        cases hDx : Dl listed x.ix with
        | true => rfl
        | false =>
          exfalso
          obtain ⟨pre, y, post, e, h1, h2⟩ := first_undone (D := Dl listed) ⟨x, hx, hDx⟩
          have hy : y ∈ flatOf ps0 := by rw [e]; simp
          have hmem : y.ix ∈ Region.ready .any ops listed := by
            refine mem_ready.2 ⟨?_, y.o, ?_, ?_⟩
            · unfold Dl at h1
              rw [Array.getD_eq_getD_getElem?] at h1 ⊢
              rw [Array.getElem?_eq_getElem (by rw [hls]; exact hixlt y hy)] at h1 ⊢
              exact h1
            · have := (hplan.item y hy).o
              rw [Array.getElem?_toList] at this
              exact this
            · intro ed hed hb
              have hed' : ed ∈ y.o.after.toList := Array.mem_toList_iff.2 hed
              have hlt := hplan.edge y hy ed hed' hb
              have hlo : ed.on < ops.toList.length := by have := hixlt y hy; simp; omega
              obtain ⟨z, hz, ez⟩ := hplan.cover ed.on hlo
              have hbit : hasBit y.bef z.ix = true := (hplan.bef y hy z.ix).2 ⟨ed, hed', hb, .inl ez.symm⟩
              rw [e] at hz
              simp only [List.mem_append, List.mem_cons] at hz
              rcases hz with hz | rfl | hz
              · have := h2 z hz
                rw [ez] at this
                exact this
              · omega
              · obtain ⟨p1, p2, ep⟩ := List.append_of_mem hz
                have hpair : flatOf ps0 = pre ++ y :: (p1 ++ z :: p2) := by rw [e, ep]
                have := (orderOk_pair hord _ _ _ _ _ hpair).2.1
                rw [hbit] at this; cases this
          rw [hready] at hmem; cases hmem
      have ha : a = none := by
        cases a with
        | none => rfl
        | some a =>
          have hmem : a ∈ flatOf ps0 := by rw [hflat]; simp [restOf]
          have h1 := hdone a hmem
          have h2 := hrest a (by simp [restOf])
          rw [h1] at h2; cases h2
      subst ha
      simp only [Tail, Option.some.injEq] at htail
      subst htail
      exact hQ _ _ _ ⟨_, hll _ (List.mem_singleton.2 rfl), μ, rfl, fun i => by
        rw [hI.lk i, ← atD_congr (D := Dl listed) t0 i log (fun p hp _ => hdone p.1 (by rw [hflat]; simp only [List.mem_append, List.mem_reverse, List.mem_map]; exact .inl ⟨p, hp, rfl⟩))]
        exact hρ i, hn, hd, hI.hr, hI.ex⟩
    · intro i hi
      obtain ⟨hi1, o, hi2, hi3⟩ := mem_ready.1 hi
      have hilt : i < ops.size := (Array.getElem?_eq_some_iff.1 hi2).1
      have hDi : Dl listed i = false := by
        unfold Dl
        rw [Array.getD_eq_getD_getElem?] at hi1 ⊢
        rw [Array.getElem?_eq_getElem (by omega)] at hi1 ⊢
        exact hi1
      obtain ⟨x, hx, rfl⟩ := hplan.cover i (by simpa using hilt)
      have hxi := hplan.item x hx
      have hxo : x.o = o := by
        have := hxi.o
        rw [Array.getElem?_toList, hi2] at this
        exact (Option.some.inj this).symm
      subst hxo
      have hxdst := hxi.dst
      have hbef : ∀ j, hasBit x.bef j = true → Dl listed j = true := by
        intro j hj
        obtain ⟨ed, he1, he2, h⟩ := (hplan.bef x hx j).1 hj
        have hon : Dl listed ed.on = true := hi3 ed (Array.mem_toList_iff.1 he1) he2
        rcases h with h | ⟨y, hy, h1, h2⟩
        · rw [← h]; exact hon
        · exact hcl y hy (by rw [h1]; exact hon) j h2
      have hsz : x.ix < listed.size := by omega
      have hD' := Dl_set hsz
      -- what is done then
      have hcl' : Closed (flatOf ps0) (Dl (listed.setIfInBounds x.ix true)) := by
        intro y hy hyD j hj
        rw [hD'] at hyD ⊢
        simp only [Bool.or_eq_true, beq_iff_eq] at hyD ⊢
        rcases hyD with e | e
        · refine .inr (hbef j ?_)
          have hyo : y.o = x.o := by
            have h1 := (hplan.item y hy).o
            have h2 := hxi.o
            rw [e, h2] at h1
            exact (Option.some.inj h1).symm
          rw [hplan.bef y hy j, hyo] at hj
          exact (hplan.bef x hx j).2 hj
        · exact .inr (hcl y hy e j hj)
      have hcount' : (List.range ops.size).countP (fun j => !Dl (listed.setIfInBounds x.ix true) j) ≤ fuel := by
        have := countP_lt (p := fun j => !Dl (listed.setIfInBounds x.ix true) j) (q := fun j => !Dl listed j) (i := x.ix) (l := List.range ops.size) (fun j hj => by
          rw [hD'] at hj
          simp only [Bool.not_eq_true', Bool.or_eq_false_iff] at hj
          simp [hj.2]) (List.mem_range.2 hilt) (by simp [hDi]) (by rw [hD']; simp)
        omega
      have hls' : (listed.setIfInBounds x.ix true).size = ops.size := by simpa using hls
      have hopsR : ∀ t, Operand.tmp t ∈ x.o.op.operands.toList → t ∈ x.rd := by
        intro t ht
        rw [hxi.rd]
        exact List.mem_append_left _ (mem_tmpsOf.2 ht)
      have hgR : ∀ t, t ∈ readsOf ops.toList x.o → t ∈ x.rd := by intro t ht; rw [hxi.rd]; exact ht
      -- which one is it?
      have hwhere : (∃ new v old, log = new ++ (x, v) :: old) ∨ a = some x := by
        rw [hflat] at hx
        rcases List.mem_append.1 hx with h | h
        · left
          simp only [List.mem_reverse, List.mem_map] at h
          obtain ⟨p, hp, rfl⟩ := h
          obtain ⟨new, old, e⟩ := List.append_of_mem hp
          exact ⟨new, p.2, old, e⟩
        · right
          cases a with
          | none =>
            have hr0 : r = [] := by
              simp only [actsOk, Bool.and_eq_true] at hacts
              cases r with
              | nil => rfl
              | cons _ _ => exact absurd hacts.2 (by simp)
            subst hr0
            cases h
          | some a =>
            simp only [restOf, List.mem_cons] at h
            rcases h with rfl | h
            · rfl
            · exfalso
              simp only [actsOk, Bool.and_eq_true, List.all_eq_true] at hacts
              have := hbef a.ix (hacts.2.1 x h)
              have h2 := hrest a (by simp [restOf])
              rw [this] at h2; cases h2
      -- temporaries behind it
      have hput : ∀ (log' : List (Item × Value)) (new old : List (Item × Value)) (v v' : Value) (μ' : Ren), log' = new ++ (x, v) :: old → (∃ rest, flatOf ps0 = (log'.map (·.1)).reverse ++ rest) → (∀ d, x.dst = some d → d < nt) →
          RR μ' (atD (Dl listed) t0 log') act.tmps → VR μ' v v' → RR μ' (atD (Dl (listed.setIfInBounds x.ix true)) t0 log') (act.put x.o.dst v').tmps ∧ (act.put x.o.dst v').tmps.size = nt ∧ (act.put x.o.dst v').defers = act.defers := by
        intro log' new old v v' μ' hlog ⟨rest, hfl⟩ hdlt hρ' hv
        have hadd : ∀ t, atD (Dl (listed.setIfInBounds x.ix true)) t0 log' t = if x.dst = some t then v else atD (Dl listed) t0 log' t := by
          intro t
          rw [hD', hlog]
          exact atD_add hord hcl t0 (by rw [hlog] at hfl; exact hfl) hDi t
        rw [← hxdst]
        cases hdx : x.dst with
        | none =>
          refine ⟨fun t => ?_, hn, rfl⟩
          rw [hadd t, hdx, if_neg (by simp)]
          exact hρ' t
        | some d =>
          have hlt : d < act.tmps.size := by rw [hn]; exact hdlt d hdx
          refine ⟨fun t => ?_, by simpa [Act.put] using hn, rfl⟩
          show VR μ' _ ((act.tmps.setIfInBounds d v').getD t undef)
          rw [getD_set hlt, hadd t, hdx]
          by_cases e : t = d
          · subst e; simp only [if_true]; exact hv
          · have e' : ¬ (some d = some t) := fun g => e (Option.some.inj g).symm
            simp only [e, e', if_false]; exact hρ' t
      rcases hwhere with ⟨new, v, old, hlog⟩ | rfl
      · -- it has been gone through
        have hfl : flatOf ps0 = ((new ++ (x, v) :: old).map (·.1)).reverse ++ restOf a r := by rw [← hlog]; exact hflat
        have hagree : ∀ t, t ∈ x.rd → atD (fun _ => true) t0 old t = atD (Dl listed) t0 log t := by
          intro t ht
          rw [hlog]
          exact (atD_agree hord hcl t0 hfl hDi hbef ht).symm
        have hwant : Region.wanted x.o (yielded ops act.tmps) = wantedA x.o ops (atD (fun _ => true) t0 old) := by
          rw [wanted_sound hρ]
          exact wantedA_congr (fun t ht => (hagree t (hgR t ht)).symm)
        have hdlt : ∀ d, x.dst = some d → d < nt := hI.dst (x, v) (by rw [hlog]; simp)
        have hrest' : ∀ y ∈ restOf a r, Dl (listed.setIfInBounds x.ix true) y.ix = false := by
          intro y hy
          rw [hD']
          simp only [Bool.or_eq_false_iff, beq_eq_false_iff_ne]
          refine ⟨fun e => ?_, hrest y hy⟩
          obtain ⟨y1, y2, ey⟩ := List.append_of_mem hy
          have hpair : flatOf ps0 = (old.map (·.1)).reverse ++ x :: (((new.map (·.1)).reverse ++ y1) ++ y :: y2) := by rw [hfl, ey]; simp
          exact (orderOk_pair hord _ _ _ _ _ hpair).1 e.symm
        -- on with the rest
        have next : ∀ (μ' : Ren) (w' : World) (v' : Value), VR μ' v v' → HR μ' st1 w'.heap base → Ex μ0 st0 w0 μ' st1 w' base → Sub μ μ' → (∀ new' y u old', log = new' ++ (y, u) :: old' → Dl listed y.ix = false → y.ix ≠ x.ix → ∀ b, blk y.ix = some b → b < st1.next → μ b = none → μ' b = none) →
            wpAnyIn (wd rr) 0 P .any ops Q fuel (listed.setIfInBounds x.ix true) (act.put x.o.dst v') w' := by
          intro μ' w' v' hv hr' hex' hsub hgh
          obtain ⟨p1, p2, p3⟩ := hput log new old v v' μ' hlog ⟨_, hflat⟩ hdlt (hρ.mono hsub) hv
          refine ih _ a r t1 st1 recs1 l log blk μ' w' _ hls' hcount' hcl' ⟨hI.lk, ?_, hI.inj, hI.bl, hI.dst, hr', hex'⟩ hflat hrest' hacts hrec htail hll p1 p2 (by rw [p3]; exact hd.mono hsub)
          intro new' y u old' e hy
          rw [hD'] at hy
          simp only [Bool.or_eq_false_iff, beq_eq_false_iff_ne] at hy
          exact (hI.pend new' y u old' e hy.2).mono (Nat.le_refl _) (fun b hb hlt hm => ⟨hgh new' y u old' e hy.2 hy.1 b hb hlt hm, rfl⟩) (fun r hr _ => hr) (fun b hb => hb)
        have step : (Region.wanted x.o (yielded ops act.tmps) = true → x.o.wpIn (wd rr) 0 P act w (wpAnyIn (wd rr) 0 P .any ops Q fuel (listed.setIfInBounds x.ix true)) Q) →
            (Region.wanted x.o (yielded ops act.tmps) = false → wpAnyIn (wd rr) 0 P .any ops Q fuel (listed.setIfInBounds x.ix true) (act.put x.o.dst undef) w) →
            wpOpIn (wd rr) 0 P ops Q x.ix (wpAnyIn (wd rr) 0 P .any ops Q fuel (listed.setIfInBounds x.ix true)) act w := by
          intro h1 h2
          unfold wpOpIn
          rw [hi2]
          simp only []
          cases hw : Region.wanted x.o (yielded ops act.tmps) with
          | true => rw [if_pos rfl]; exact h1 hw
          | false => rw [if_neg (by simp)]; exact ⟨fun _ _ => trivial, h2 hw⟩
        have hsame : ∀ (μ' : Ren) (w' : World), Ex μ st1 w μ' st1 w' base → ∀ new' y u old', log = new' ++ (y, u) :: old' → Dl listed y.ix = false → y.ix ≠ x.ix → ∀ b, blk y.ix = some b → b < st1.next → μ b = none → μ' b = none :=
          fun μ' w' hex new' y u old' _ _ _ b _ hlt hm => (hex.ghost b hlt hm).1
        -- done where it stands: a value, and nothing else turns
        have done : execA E (atD (Dl listed) t0 log) st1 x.o.op = some (.val v, st1) → x.o.wpIn (wd rr) 0 P act w (wpAnyIn (wd rr) 0 P .any ops Q fuel (listed.setIfInBounds x.ix true)) Q := by
          intro he
          have hdf : ∀ c, x.o.op ≠ .defer c := fun c e => by rw [e] at he; cases he
          have hs := execA_sound hE hI.hr hρ he
          refine ⟨fun _ _ => trivial, ?_⟩
          rw [Oper.semAt_eq _ _ _ hdf]
          obtain ⟨v', w', μ', hrun, h1, h2, h3⟩ := hs
          have hnx := next μ' w' v' h1 h2 (hI.ex.trans h3) h3.sub (hsame μ' w' h3)
          rcases hrun with hrun | ⟨hrun, rfl⟩
          · rw [hrun, Oper.uponIn_value]; exact hnx
          · rw [hrun, Oper.uponIn_skip]; exact hnx
        have hpend := hI.pend new x v old hlog hDi
        rcases hpend with ⟨hw0, rfl⟩ | ⟨hw1, h | ⟨hk, rc, hrc, e1, e2, e3⟩ | ⟨hk, s, s', ob, g1, g2, g3, g4, g5, g6, g7, g8⟩⟩
        · exact step (fun e => by rw [hwant, hw0] at e; cases e) (fun _ => next μ w undef VR.unit hI.hr hI.ex (Sub.refl _) (fun _ _ _ _ _ _ _ _ _ _ h => h))
        · refine step (fun _ => done ?_) (fun e => by rw [hwant, hw1] at e; cases e)
          obtain ⟨v2, hv2, hid⟩ := h
          cases hv2
          rw [execA_congr (ρ' := atD (fun _ => true) t0 old) (fun t ht => (hagree t (hopsR t ht)).symm)]
          exact hid st1
        · refine step (fun _ => done ?_) (fun e => by rw [hwant, hw1] at e; cases e)
          rw [List.all_eq_true] at hrec
          have hok := hrec rc hrc
          unfold recOk at hok
          rw [e1, e3, e2] at hok
          rw [execA_congr (ρ' := atD (fun _ => true) t0 old) (fun t ht => (hagree t (hopsR t ht)).symm)]
          cases hex : execA E (atD (fun _ => true) t0 old) st1 x.o.op with
          | none => rw [hex] at hok; cases hok
          | some q =>
            obtain ⟨res, s2⟩ := q
            rw [hex] at hok
            obtain ⟨rfl, v2, rfl⟩ := reads_kind hk hex
            simp only [] at hok
            rw [vEq_eq _ hok]
        · refine step (fun _ => ?_) (fun e => by rw [hwant, hw1] at e; cases e)
          have he : execA E (atD (Dl listed) t0 log) s x.o.op = some (.val v, s') := by
            rw [execA_congr (ρ' := atD (fun _ => true) t0 old) (fun t ht => (hagree t (hopsR t ht)).symm)]
            exact g1
          have hdf : ∀ c, x.o.op ≠ .defer c := fun c e => by rw [e] at he; cases he
          obtain ⟨v2, o2, hv2, hl, _, hmk⟩ := makes_kind (P := P) hE hk he
          cases hv2
          have ho2 : o2 = ob := by
            have := hl.2.1 s.next
            rw [g2, if_pos rfl] at this
            exact (Option.some.inj this).symm
          subst ho2
          obtain ⟨v', o', w', L, r1, r2, r3, r4, r5, r6⟩ := hmk μ w act x.o hρ rfl
          have hsub : Sub μ (upd μ s.next L) := sub_upd L g6
          obtain ⟨hv, hob⟩ := r6 _ hsub (upd_self _ _ _)
          refine ⟨fun _ _ => trivial, ?_⟩
          rw [Oper.semAt_eq _ _ _ hdf, r1, Oper.uponIn_value]
          have hE0 := hI.ex
          refine next (upd μ s.next L) w' v' hv (by rw [r2]; exact hI.hr.late g5 g6 g7 r5 hob) ⟨hE0.sub.trans hsub, fun b hb hm => ⟨?_, (hE0.ghost b hb hm).2⟩, hE0.next, fun B hB => ?_, by rw [r2]; have := hE0.size; simp; omega, r3.trans hE0.os, r4.trans hE0.output⟩ hsub ?_
          · rw [upd_ne μ L (by omega)]; exact (hE0.ghost b hb hm).1
          · have hle := hI.hr.le
            rw [r2, Array.getElem?_push_lt (by omega), ← hE0.frame B hB, Array.getElem?_eq_getElem (by omega)]
          · intro new' y u old' _ _ hne b hb _ hm
            have hbn : b ≠ s.next := fun e => hne (hI.inj _ _ _ hb (by rw [e]; exact g3))
            rw [upd_ne μ L hbn]; exact hm
      · -- it is the one that acts
        have hflx : ∀ v : Value, flatOf ps0 = (((x, v) :: log).map (·.1)).reverse ++ flatOf r := by intro v; rw [hflat]; simp [restOf]
        have hat : ∀ (v : Value) t, atD (Dl listed) t0 ((x, v) :: log) t = atD (Dl listed) t0 log t := by intro v t; simp [atD, hDi]
        have hagree : ∀ t, t ∈ x.rd → look t1 t = atD (Dl listed) t0 log t := by
          intro t ht
          rw [hI.lk t, ← hat undefV t]
          exact (atD_agree (new := []) hord hcl t0 (hflx undefV) hDi hbef ht).symm
        have hwant : Region.wanted x.o (yielded ops act.tmps) = wantedA x.o ops (look t1) := by
          rw [wanted_sound hρ]
          exact wantedA_congr (fun t ht => (hagree t (hgR t ht)).symm)
        simp only [actsOk, Bool.and_eq_true, List.all_eq_true] at hacts
        obtain ⟨_, hafter, hacts2⟩ := hacts
        -- on with the next phase
        have next : ∀ (t2 : Tr Value) (st2 : St) (out : List CRes) (v v' : Value) (μ' : Ren) (w' : World), put nt t1 x.dst v = some t2 → runPhases E self nt ops defs r t2 st2 (recs1.filter fun r => !hasBit x.bef r.x.ix) = some out → (∀ y ∈ out, y ∈ l0) →
            VR μ' v v' → HR μ' st2 w'.heap base → Ex μ st1 w μ' st2 w' base → wpAnyIn (wd rr) 0 P .any ops Q fuel (listed.setIfInBounds x.ix true) (act.put x.o.dst v') w' := by
          intro t2 st2 out v v' μ' w' hp hrun hout hv hr' hex'
          obtain ⟨xs, a', r', t3, st3, recs3, rfl, hri, hrec3, htail3⟩ := runPhases_spec hrun
          obtain ⟨p1, p2, p3⟩ := hput ((x, v) :: log) [] log v v' μ' rfl ⟨_, hflx v⟩ (fun d hd => (look_put hp 0).2 d hd) (fun t => by rw [hat v t]; exact (hρ.mono hex'.sub) t) hv
          have hI2 : Inv E ops (flatOf ps0) t0 nt μ0 st0 w0 base (Dl (listed.setIfInBounds x.ix true)) ((x, v) :: log) t2 st2 (recs1.filter fun r => !hasBit x.bef r.x.ix) blk μ' w' := by
            refine ⟨fun i => ?_, ?_, hI.inj, fun i b hb => Nat.lt_of_lt_of_le (hI.bl i b hb) hex'.next, ?_, hr', hI.ex.trans hex'⟩
            · rw [(look_put hp i).1, hI.lk]; simp [atD]
            · intro new y u old e hy
              rw [hD'] at hy
              simp only [Bool.or_eq_false_iff, beq_eq_false_iff_ne] at hy
              cases new with
              | nil =>
                simp only [List.nil_append, List.cons.injEq, Prod.mk.injEq] at e
                obtain ⟨⟨rfl, rfl⟩, rfl⟩ := e
                exact absurd rfl hy.1
              | cons z new =>
                simp only [List.cons_append, List.cons.injEq] at e
                obtain ⟨rfl, e⟩ := e
                refine (hI.pend new y u old e hy.2).mono hex'.next (fun b _ hlt hm => hex'.ghost b hlt hm) (fun rc hrc hrx => ?_) (fun b hb => hb)
                refine List.mem_filter.2 ⟨hrc, ?_⟩
                cases hbit : hasBit x.bef rc.x.ix with
                | false => rfl
                | true =>
                  have := hbef _ hbit
                  rw [hrx, hy.2] at this; cases this
            · intro p hpm d hd
              rcases List.mem_cons.1 hpm with rfl | hpm
              · exact (look_put hp 0).2 d hd
              · exact hI.dst p hpm d hd
          have hfl2 : flatOf ps0 = (((x, v) :: log).map (·.1)).reverse ++ (xs ++ restOf a' r') := by rw [hflx v, flatOf_cons]
          have hD2 : ∀ y ∈ xs ++ restOf a' r', Dl (listed.setIfInBounds x.ix true) y.ix = false := by
            intro y hy
            rw [hD']
            simp only [Bool.or_eq_false_iff, beq_eq_false_iff_ne]
            have hy' : y ∈ flatOf ((xs, a') :: r') := by rw [flatOf_cons]; exact hy
            refine ⟨fun e => ?_, hrest y (by simp only [restOf, List.mem_cons]; exact .inr hy')⟩
            obtain ⟨y1, y2, ey⟩ := List.append_of_mem hy'
            have hpair : flatOf ps0 = (log.map (·.1)).reverse ++ x :: (y1 ++ y :: y2) := by rw [hflx v, ey]; simp
            exact (orderOk_pair hord _ _ _ _ _ hpair).1 e.symm
          have hitems : ∀ y ∈ xs, isAct y = false := by
            intro y hy
            have : (xs.all fun x => !isAct x) = true := by
              cases a' with
              | none => simp only [actsOk, Bool.and_eq_true] at hacts2; exact hacts2.1
              | some a' => simp only [actsOk, Bool.and_eq_true] at hacts2; exact hacts2.1
            rw [List.all_eq_true] at this
            have := this y hy
            simpa using this
          obtain ⟨log3, blk3, hI3, hfl3, hat3⟩ := hI2.items hE hord xs _ _ _ _ _ hri hfl2 (fun y hy => by
            have hyf : y ∈ flatOf ps0 := by rw [hfl2]; simp [hy]
            exact ⟨hD2 y (List.mem_append_left _ hy), hitems y hy, (hplan.item y hyf).kd, (hplan.item y hyf).dst⟩)
          refine ih _ a' r' t3 st3 recs3 out log3 blk3 μ' w' _ hls' hcount' hcl' hI3 hfl3 (fun y hy => hD2 y (List.mem_append_right _ hy)) ?_ hrec3 htail3 hout (fun t => by rw [hat3 t]; exact p1 t) p2 (by rw [p3]; exact hd.mono hex'.sub)
          cases a' with
          | none => simp only [actsOk, Bool.and_eq_true] at hacts2 ⊢; exact ⟨rfl, hacts2.2⟩
          | some a' => simp only [actsOk, Bool.and_eq_true] at hacts2 ⊢; exact ⟨rfl, hacts2.2⟩
        unfold wpOpIn
        rw [hi2]
        simp only []
        rw [hwant]
        simp only [Tail] at htail
        cases hw : wantedA x.o ops (look t1) with
        | true =>
          rw [hw] at htail
          simp only [cond_true] at htail
          rw [if_pos rfl]
          cases hop : operA E self (look t1) st1 x.o with
          | none => rw [hop] at htail; cases htail
          | some ls =>
            rw [hop] at htail
            simp only [] at htail
            have hcol := collect_spec htail
            have hop' : operA E self (atD (Dl listed) t0 log) st1 x.o = some ls := by
              rw [operA_congr (ρ' := look t1) (fun t ht => (hagree t (hopsR t ht)).symm)]
              exact hop
            refine operA_sound hE hS hI.hr hρ hop' ?_
            rintro v' w' ⟨z, hz, μ', q1, q2, q3⟩
            obtain ⟨out, f1, f2⟩ := hcol z hz
            cases hp : put nt t1 x.dst z.v with
            | none => rw [hp] at f1; cases f1
            | some t2 =>
              rw [hp] at f1
              exact next t2 z.s out z.v v' μ' w' hp f1 (fun y hy => hll y (f2 y hy)) q1 q2 q3
        | false =>
          rw [hw] at htail
          simp only [cond_false] at htail
          rw [if_neg (by simp)]
          refine ⟨fun _ _ => trivial, ?_⟩
          cases hp : put nt t1 x.dst undefV with
          | none => rw [hp] at htail; cases htail
          | some t2 =>
            rw [hp] at htail
            exact next t2 st1 l undefV undef μ w hp htail hll VR.unit hI.hr (Ex.refl _ _ _ _)

theorem runDrawn_sound (hE : EnvOK P E) {self : Self} {m : Nat} (hS : SelfOK P E self m) {ops : Array Oper} {nt : Nat} {defs : List Nat} {rr : Option Nat} {t : Tr Value} {st : St} {l : List CRes} (h : runDrawn E self nt ops t defs st = some l)
    {μ : Ren} {w : World} {base : Nat} {a : Act} (hr : HR μ st w.heap base) (hρ : RR μ (look t) a.tmps) (hn : a.tmps.size = nt) (hd : DefR μ defs a.defers) (id : Nat) : (Code.region id ops true).wpIn (wd rr) 0 P (Post μ st w base nt l) a w := by
  unfold runDrawn at h
  cases hp : planOf E ops with
  | none => rw [hp] at h; cases h
  | some ps =>
    rw [hp] at h
    simp only [] at h
    have hplan := planOf_is hp
    refine wpIn_region_any hE.mixed ?_
    obtain ⟨xs, a', r', t1, st1, recs1, rfl, hri, hrec, htail⟩ := runPhases_spec h
    have hD0 : ∀ i, Dl (Array.replicate ops.size false) i = false := by
      intro i
      unfold Dl
      rw [Array.getD_eq_getD_getElem?, Array.getElem?_replicate]
      split <;> rfl
    have hex0 : Ex μ st w μ st { w with drawn := w.drawn + 1 } base := Ex.world rfl rfl rfl
    have hI0 : Inv E ops (flatOf ((xs, a') :: r')) (look t) nt μ st w base (Dl (Array.replicate ops.size false)) [] t st [] (fun _ => none) μ { w with drawn := w.drawn + 1 } :=
      ⟨fun i => rfl, fun new x v old e => (by cases new <;> cases e), fun i j b h => (by cases h), fun i b h => (by cases h), fun p hp => (by cases hp), hr, hex0⟩
    have hacts := hplan.acts
    have hitems : ∀ y ∈ xs, isAct y = false := by
      intro y hy
      have : (xs.all fun x => !isAct x) = true := by
        cases a' with
        | none => simp only [actsOk, Bool.and_eq_true] at hacts; exact hacts.1
        | some a' => simp only [actsOk, Bool.and_eq_true] at hacts; exact hacts.1
      rw [List.all_eq_true] at this
      have := this y hy
      simpa using this
    obtain ⟨log1, blk1, hI1, hfl1, hat1⟩ := hI0.items hE hplan.order xs _ _ _ _ _ hri (by rw [flatOf_cons]; rfl) (fun y hy => by
      have hyf : y ∈ flatOf ((xs, a') :: r') := by rw [flatOf_cons]; simp [hy]
      exact ⟨hD0 _, hitems y hy, (hplan.item y hyf).kd, (hplan.item y hyf).dst⟩)
    refine drawn_sound hE hS hplan (l0 := l) (fun _ _ _ h => h) ops.size _ a' r' t1 st1 recs1 l log1 blk1 μ _ a (by simp) ?_ (fun x _ hx => by rw [hD0] at hx; cases hx) hI1 hfl1 (fun y _ => hD0 _) ?_ hrec htail (fun _ h => h) (fun i => by
      rw [hat1 i]; exact hρ i) hn hd
    · have := List.countP_le_length (p := fun i => !Dl (Array.replicate ops.size false) i) (l := List.range ops.size)
      simpa using this
    · cases a' with
      | none => simp only [actsOk, Bool.and_eq_true] at hacts ⊢; exact ⟨rfl, hacts.2⟩
      | some a' => simp only [actsOk, Bool.and_eq_true] at hacts ⊢; exact ⟨rfl, hacts.2⟩

end
end Go.Det
