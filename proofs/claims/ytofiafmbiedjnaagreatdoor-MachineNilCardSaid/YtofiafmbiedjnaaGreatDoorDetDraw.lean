/- Regions that draw their order: the plan, and what each order comes to. The bookkeeping. -/
import Derived.Test.YtofiafmbiedjnaaGreatDoorDetOps
set_option autoImplicit false
namespace Go.Det

/-! ### Bits -/
theorem hasBit_eq (m i : Nat) : hasBit m i = m.testBit i := by
  unfold hasBit Nat.testBit
  show Nat.beq ((m >>> i) % 2) 1 = (1 &&& (m >>> i) != 0)
  rw [Nat.and_comm, Nat.and_one_is_mod]
  rcases Nat.mod_two_eq_zero_or_one (m >>> i) with e | e <;> rw [e] <;> rfl

theorem hasBit_zero (i : Nat) : hasBit 0 i = false := by rw [hasBit_eq]; simp

theorem hasBit_before1 (acc : List Nat) (o : Oper) (j : Nat) :
    hasBit (before1 acc o) j = true ↔ ∃ e ∈ o.after.toList, Region.binds .any e = true ∧ (e.on = j ∨ hasBit ((acc[e.on]?).getD 0) j = true) := by
  unfold before1
  have key : ∀ (l : List Edge) (s : Nat), hasBit (l.foldl (fun s e => cond (Region.binds .any e) (Nat.lor (Nat.lor s (Nat.shiftLeft 1 e.on)) ((acc[e.on]?).getD 0)) s) s) j = true ↔
      (hasBit s j = true ∨ ∃ e ∈ l, Region.binds .any e = true ∧ (e.on = j ∨ hasBit ((acc[e.on]?).getD 0) j = true)) := by
    intro l
    induction l with
    | nil => intro s; simp
    | cons e r ih =>
      intro s
      rw [List.foldl_cons, ih]
      cases hb : Region.binds .any e with
      | false => simp [hb]
      | true =>
        simp only [cond_true]
        have e1 : hasBit (Nat.lor (Nat.lor s (Nat.shiftLeft 1 e.on)) ((acc[e.on]?).getD 0)) j = true ↔ (hasBit s j = true ∨ e.on = j ∨ hasBit ((acc[e.on]?).getD 0) j = true) := by
          simp only [hasBit_eq]
          show ((s ||| (1 <<< e.on)) ||| (acc[e.on]?).getD 0).testBit j = true ↔ _
          rw [Nat.testBit_or, Nat.testBit_or, Nat.testBit_shiftLeft]
          simp only [Bool.or_eq_true, Bool.and_eq_true, decide_eq_true_eq]
          constructor
          · rintro ((h | ⟨h1, h2⟩) | h)
            · exact .inl h
            · refine .inr (.inl ?_)
              have h3 : j - e.on = 0 := by
                rcases Nat.eq_zero_or_pos (j - e.on) with g | g
                · exact g
                · exfalso
                  rw [Nat.testBit_lt_two_pow (Nat.one_lt_two_pow (by omega))] at h2
                  cases h2
              omega
            · exact .inr (.inr h)
          · rintro (h | h | h)
            · exact .inl (.inl h)
            · refine .inl (.inr ⟨by omega, ?_⟩)
              rw [h]; simp
            · exact .inr h
        rw [e1]
        constructor
        · rintro ((h | h | h) | ⟨e', a, b⟩)
          · exact .inl h
          · exact .inr ⟨e, by simp, hb, .inl h⟩
          · exact .inr ⟨e, by simp, hb, .inr h⟩
          · exact .inr ⟨e', by simp [a], b⟩
        · rintro (h | ⟨e', a, b, c⟩)
          · exact .inl (.inl h)
          · rcases List.mem_cons.1 a with rfl | a
            · exact .inl (.inr c)
            · exact .inr ⟨e', a, b, c⟩
  rw [key]
  simp [hasBit_zero]

/-! ### What a plan promises -/
structure ItemIs (E : Env) (ops : List Oper) (x : Item) : Prop where
  o : ops[x.ix]? = some x.o
  kd : x.kd = kindOf E x.o.op
  dst : x.dst = x.o.dst
  rd : x.rd = readsOf ops x.o

theorem itemsOf_is (E : Env) (ops : List Oper) : ∀ (l : List Oper) (bs : List Nat) (i : Nat), (∀ j, l[j]? = ops[i + j]?) → ∀ x ∈ itemsOf E ops l bs i, ItemIs E ops x := by
  intro l
  induction l with
  | nil => intro bs i _ x hx; simp [itemsOf] at hx
  | cons o r ih =>
    intro bs i h x hx
    cases bs with
    | nil => simp [itemsOf] at hx
    | cons b bs =>
      simp only [itemsOf, List.mem_cons] at hx
      rcases hx with rfl | hx
      · refine ⟨?_, rfl, rfl, rfl⟩
        have := h 0
        simpa using this.symm
      · refine ih bs (Nat.add i 1) (fun j => ?_) x hx
        have := h (j + 1)
        have e : i + (j + 1) = Nat.add i 1 + j := by show i + (j + 1) = i + 1 + j; omega
        rw [← e]
        simpa using this

structure PlanIs (E : Env) (ops : List Oper) (ps : List (List Item × Option Item)) : Prop where
  item : ∀ x ∈ flatOf ps, ItemIs E ops x
  edge : ∀ x ∈ flatOf ps, ∀ e ∈ x.o.after.toList, Region.binds .any e = true → e.on < x.ix
  bef : ∀ x ∈ flatOf ps, ∀ j, hasBit x.bef j = true ↔ ∃ e ∈ x.o.after.toList, Region.binds .any e = true ∧ (e.on = j ∨ ∃ y ∈ flatOf ps, y.ix = e.on ∧ hasBit y.bef j = true)
  order : orderOk (flatOf ps) = true
  acts : actsOk ps = true
  cover : ∀ i, i < ops.length → ∃ x ∈ flatOf ps, x.ix = i

theorem mem_phases {items acts : List Item} : ∀ (l : List Item) (k : Nat), (∀ a ∈ l, a ∈ items) → ∀ x ∈ flatOf (phases items acts l k), x ∈ items := by
  intro l
  induction l with
  | nil => intro k _ x hx; simp only [phases, flatOf, List.append_nil] at hx; exact (List.mem_filter.1 hx).1
  | cons a r ih =>
    intro k h x hx
    simp only [phases, flatOf, List.mem_append, List.mem_cons] at hx
    rcases hx with hx | rfl | hx
    · exact (List.mem_filter.1 hx).1
    · exact h x (by simp)
    · exact ih _ (fun b hb => h b (by simp [hb])) x hx

theorem coverOk_spec (flat : List Item) : ∀ n, coverOk flat n = true → ∀ i, i < n → ∃ x ∈ flat, x.ix = i := by
  intro n
  induction n with
  | zero => intro _ i hi; omega
  | succ n ih =>
    intro h i hi
    simp only [coverOk, Bool.and_eq_true, List.any_eq_true] at h
    obtain ⟨⟨x, hx, e⟩, h2⟩ := h
    by_cases g : i = n
    · exact ⟨x, hx, by rw [g]; exact Nat.eq_of_beq_eq_true e⟩
    · exact ih h2 i (by omega)

theorem planOf_is {E : Env} {ops : Array Oper} {ps : List (List Item × Option Item)} (h : planOf E ops = some ps) : PlanIs E ops.toList ps := by
  unfold planOf at h
  simp only [] at h
  generalize hbs : befores ops.toList [] = bs at h
  generalize hit : itemsOf E ops.toList ops.toList bs 0 = items at h
  generalize hac : items.filter isAct = acts at h
  generalize hps : phases items acts acts 0 = qs at h
  cases hc : (items.all (itemOk E ops.toList bs) && orderOk (flatOf qs) && actsOk qs && coverOk (flatOf qs) ops.toList.length) with
  | false => rw [hc] at h; cases h
  | true =>
    rw [hc] at h
    simp only [cond_true, Option.some.injEq] at h
    subst h
    simp only [Bool.and_eq_true] at hc
    obtain ⟨⟨⟨h1, h2⟩, h3⟩, h4⟩ := hc
    rw [List.all_eq_true] at h1
    have hmem : ∀ x ∈ flatOf qs, x ∈ items := by
      rw [← hps]
      refine mem_phases acts 0 (fun a ha => ?_)
      rw [← hac] at ha
      exact (List.mem_filter.1 ha).1
    have his : ∀ x ∈ items, ItemIs E ops.toList x := by
      rw [← hit]
      exact itemsOf_is E _ _ _ _ (fun j => by simp)
    have hcov := coverOk_spec _ _ h4
    have hbef : ∀ x ∈ items, bs[x.ix]? = some x.bef ∧ x.bef = before1 bs x.o ∧ ∀ e ∈ x.o.after.toList, Region.binds .any e = true → e.on < x.ix := by
      intro x hx
      have g := h1 x hx
      unfold itemOk at g
      simp only [Bool.and_eq_true] at g
      obtain ⟨g1, g2⟩ := g
      cases ho : ops.toList[x.ix]? with
      | none => rw [ho] at g1; cases g1
      | some p =>
        cases hb : bs[x.ix]? with
        | none => rw [ho, hb] at g1; cases g1
        | some b =>
          rw [ho, hb] at g1
          simp only [Bool.and_eq_true] at g1
          have e1 := Nat.eq_of_beq_eq_true g1.1
          have e2 := Nat.eq_of_beq_eq_true g1.2
          refine ⟨by rw [e1], by rw [e1, e2], fun e he hbe => ?_⟩
          rw [List.all_eq_true] at g2
          have := g2 e he
          simp only [hbe, Bool.not_true, Bool.false_or] at this
          simpa [Nat.blt_eq] using this
    have hlt : ∀ x ∈ items, x.ix < ops.toList.length := fun x hx => (List.getElem?_eq_some_iff.1 (his x hx).o).1
    refine ⟨fun x hx => his x (hmem x hx), fun x hx => (hbef x (hmem x hx)).2.2, fun x hx j => ?_, h2, h3, hcov⟩
    obtain ⟨b1, b2, b3⟩ := hbef x (hmem x hx)
    rw [b2, hasBit_before1]
    constructor
    · rintro ⟨e, he, hbe, g | g⟩
      · exact ⟨e, he, hbe, .inl g⟩
      · refine ⟨e, he, hbe, .inr ?_⟩
        have hel : e.on < ops.toList.length := Nat.lt_trans (b3 e he hbe) (hlt x (hmem x hx))
        obtain ⟨y, hy, ey⟩ := hcov e.on hel
        refine ⟨y, hy, ey, ?_⟩
        have := (hbef y (hmem y hy)).1
        rw [ey] at this
        rw [this] at g
        exact g
    · rintro ⟨e, he, hbe, g | ⟨y, hy, ey, g⟩⟩
      · exact ⟨e, he, hbe, .inl g⟩
      · refine ⟨e, he, hbe, .inr ?_⟩
        have := (hbef y (hmem y hy)).1
        rw [ey] at this
        rw [this]
        exact g

/-! ### Who has been -/
/-- A set of numbers that holds, with each, all that comes ahead of it. -/
def Closed (flat : List Item) (D : Nat → Bool) : Prop := ∀ x ∈ flat, D x.ix = true → ∀ j, hasBit x.bef j = true → D j = true

/-- The temporaries when so many have been. The newest entry comes first. -/
def atD (D : Nat → Bool) (t0 : Nat → Value) : List (Item × Value) → Nat → Value
  | [], t => t0 t
  | (x, v) :: r, t => if D x.ix = true ∧ x.dst = some t then v else atD D t0 r t

theorem atD_congr (t0 : Nat → Value) (t : Nat) {D D' : Nat → Bool} : ∀ (l : List (Item × Value)), (∀ p ∈ l, p.1.dst = some t → D p.1.ix = D' p.1.ix) → atD D t0 l t = atD D' t0 l t
  | [], _ => rfl
  | (x, v) :: r, h => by
    simp only [atD]
    have ih := atD_congr t0 t r (fun p hp => h p (by simp [hp]))
    by_cases e : x.dst = some t
    · have := h (x, v) (by simp) e
      simp only [] at this
      rw [this, ih]
    · simp only [e, and_false, if_false]
      exact ih

theorem atD_skip (t0 : Nat → Value) (t : Nat) {D : Nat → Bool} : ∀ (l r : List (Item × Value)), (∀ p ∈ l, p.1.dst = some t → D p.1.ix = false) → atD D t0 (l ++ r) t = atD D t0 r t
  | [], _, _ => rfl
  | (x, v) :: l, r, h => by
    simp only [List.cons_append, atD]
    have ih := atD_skip t0 t l r (fun p hp => h p (by simp [hp]))
    by_cases e : x.dst = some t
    · have := h (x, v) (by simp) e
      simp only [] at this
      simp only [this, Bool.false_eq_true, false_and, if_false]
      exact ih
    · simp only [e, and_false, if_false]
      exact ih

theorem orderOk_pair : ∀ {l : List Item}, orderOk l = true → ∀ (a b c : List Item) (x y : Item), l = a ++ x :: (b ++ y :: c) → x.ix ≠ y.ix ∧ hasBit x.bef y.ix = false ∧ apartOk x y = true := by
  intro l
  induction l with
  | nil => intro _ a b c x y h; cases a <;> cases h
  | cons z r ih =>
    intro h a b c x y e
    simp only [orderOk, Bool.and_eq_true, List.all_eq_true] at h
    cases a with
    | nil =>
      simp only [List.nil_append, List.cons.injEq] at e
      obtain ⟨rfl, rfl⟩ := e
      have := h.1 y (by simp)
      simp only [Bool.and_eq_true, Bool.not_eq_true'] at this
      exact ⟨fun g => by rw [g] at this; simp at this, this.1.2, this.2⟩
    | cons w a =>
      simp only [List.cons_append, List.cons.injEq] at e
      exact ih h.2 a b c x y e.2

/-- The temporaries that an item reads are, whoever else has been, as when it was gone through. -/
theorem atD_agree {flat : List Item} (ho : orderOk flat = true) {D : Nat → Bool} (hD : Closed flat D) (t0 : Nat → Value) {new old : List (Item × Value)} {x : Item} {v : Value}
    {rest : List Item} (hflat : flat = ((new ++ (x, v) :: old).map (·.1)).reverse ++ rest) (hx : D x.ix = false) (hb : ∀ j, hasBit x.bef j = true → D j = true) {t : Nat} (ht : t ∈ x.rd) :
    atD D t0 (new ++ (x, v) :: old) t = atD (fun _ => true) t0 old t := by
  have hxm : x ∈ flat := by rw [hflat]; simp
  -- the newer ones have not been
  have hnew : ∀ p ∈ new, p.1.dst = some t → D p.1.ix = false := by
    intro p hp hd
    obtain ⟨n1, n2, e⟩ := List.append_of_mem hp
    have hpm : p.1 ∈ flat := by rw [hflat]; simp only [List.mem_append, List.mem_reverse, List.mem_map]; exact .inl ⟨p, by simp [hp], rfl⟩
    have hpair : flat = (old.map (·.1)).reverse ++ x :: ((n2.map (·.1)).reverse ++ p.1 :: ((n1.map (·.1)).reverse ++ rest)) := by
      rw [hflat, e]; simp
    obtain ⟨_, h2, h3⟩ := orderOk_pair ho _ _ _ _ _ hpair
    cases hDp : D p.1.ix with
    | false => rfl
    | true =>
      exfalso
      unfold apartOk at h3
      rw [h2] at h3
      simp only [Bool.or_false] at h3
      rw [Bool.or_eq_true] at h3
      rcases h3 with g | g
      · have := hD p.1 hpm hDp x.ix g
        rw [hx] at this; cases this
      · rw [Bool.and_eq_true] at g
        have g2 := g.2
        rw [hd] at g2
        simp at g2
        exact g2 ht
  -- the elder ones that write it have
  have hold : ∀ p ∈ old, p.1.dst = some t → D p.1.ix = true := by
    intro p hp hd
    obtain ⟨o1, o2, e⟩ := List.append_of_mem hp
    have hpair : flat = (o2.map (·.1)).reverse ++ p.1 :: ((o1.map (·.1)).reverse ++ x :: ((new.map (·.1)).reverse ++ rest)) := by
      rw [hflat, e]; simp
    obtain ⟨_, h2, h3⟩ := orderOk_pair ho _ _ _ _ _ hpair
    unfold apartOk at h3
    rw [h2] at h3
    simp only [Bool.or_false] at h3
    rw [Bool.or_eq_true] at h3
    rcases h3 with g | g
    · exact hb _ g
    · exfalso
      rw [Bool.and_eq_true] at g
      have g1 := g.1
      rw [hd] at g1
      simp at g1
      exact g1.1 ht
  rw [atD_skip t0 t new _ hnew]
  simp only [atD, hx, Bool.false_eq_true, false_and, if_false]
  exact atD_congr t0 t old (fun p hp hd => by rw [hold p hp hd])

/-- One more has been. -/
theorem atD_add {flat : List Item} (ho : orderOk flat = true) {D : Nat → Bool} (hD : Closed flat D) (t0 : Nat → Value) {new old : List (Item × Value)} {x : Item} {v : Value}
    {rest : List Item} (hflat : flat = ((new ++ (x, v) :: old).map (·.1)).reverse ++ rest) (hx : D x.ix = false) (t : Nat) :
    atD (fun j => j == x.ix || D j) t0 (new ++ (x, v) :: old) t = if x.dst = some t then v else atD D t0 (new ++ (x, v) :: old) t := by
  have hother : ∀ p ∈ new ++ old, p.1.ix ≠ x.ix := by
    intro p hp
    rcases List.mem_append.1 hp with g | g
    · obtain ⟨n1, n2, e⟩ := List.append_of_mem g
      have hpair : flat = (old.map (·.1)).reverse ++ x :: ((n2.map (·.1)).reverse ++ p.1 :: ((n1.map (·.1)).reverse ++ rest)) := by
        rw [hflat, e]; simp
      exact (orderOk_pair ho _ _ _ _ _ hpair).1.symm
    · obtain ⟨o1, o2, e⟩ := List.append_of_mem g
      have hpair : flat = (o2.map (·.1)).reverse ++ p.1 :: ((o1.map (·.1)).reverse ++ x :: ((new.map (·.1)).reverse ++ rest)) := by
        rw [hflat, e]; simp
      exact (orderOk_pair ho _ _ _ _ _ hpair).1
  by_cases hd : x.dst = some t
  · rw [if_pos hd]
    have hnew : ∀ p ∈ new, p.1.dst = some t → (p.1.ix == x.ix || D p.1.ix) = false := by
      intro p hp hpd
      have hne := hother p (by simp [hp])
      obtain ⟨n1, n2, e⟩ := List.append_of_mem hp
      have hpm : p.1 ∈ flat := by rw [hflat]; simp only [List.mem_append, List.mem_reverse, List.mem_map]; exact .inl ⟨p, by simp [hp], rfl⟩
      have hpair : flat = (old.map (·.1)).reverse ++ x :: ((n2.map (·.1)).reverse ++ p.1 :: ((n1.map (·.1)).reverse ++ rest)) := by
        rw [hflat, e]; simp
      obtain ⟨_, h2, h3⟩ := orderOk_pair ho _ _ _ _ _ hpair
      have : D p.1.ix = false := by
        cases hDp : D p.1.ix with
        | false => rfl
        | true =>
          exfalso
          unfold apartOk at h3
          rw [h2] at h3
          simp only [Bool.or_false] at h3
          rw [Bool.or_eq_true] at h3
          rcases h3 with g | g
          · have := hD p.1 hpm hDp x.ix g
            rw [hx] at this; cases this
          · rw [Bool.and_eq_true] at g
            have g1 := g.1
            rw [hd, hpd] at g1
            simp at g1
      rw [this]
      simpa using hne
    rw [atD_skip t0 t new _ hnew]
    simp [atD, hd]
  · rw [if_neg hd]
    refine atD_congr t0 t _ (fun p hp hpd => ?_)
    rcases List.mem_append.1 hp with g | g
    · have := hother p (by simp [g])
      simp [this]
    · rcases List.mem_cons.1 g with rfl | g
      · exact absurd hpd hd
      · have := hother p (by simp [g])
        simp [this]

end Go.Det
