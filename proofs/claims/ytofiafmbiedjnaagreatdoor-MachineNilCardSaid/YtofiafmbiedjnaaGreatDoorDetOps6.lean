/- Appending. -/
import Derived.Test.YtofiafmbiedjnaaGreatDoorDetOps5
set_option autoImplicit false
namespace Go.Det

/-- A block of the world more, that no abstract one is. -/
theorem HR.push_only {μ : Ren} {st : St} {h : Array Obj} {base : Nat} (hr : HR μ st h base) (o' : Obj) : HR μ st (h.push o') base := by
  refine ⟨hr.fresh, fun b L hb => ?_, hr.heapIn, fun b L o hb ho => ?_, hr.sep, hr.cls, hr.clsIn, by have := hr.le; simp; omega⟩
  · obtain ⟨a, c⟩ := hr.inn b L hb; exact ⟨a, by simp; omega⟩
  · obtain ⟨p, a, c⟩ := hr.obj b L o hb ho
    have hlt := (hr.inn b L hb).2
    exact ⟨p, by rw [Array.getElem?_push_lt hlt]; rw [Array.getElem?_eq_getElem hlt] at a; exact a, c⟩

/-- A grown row: of its elder's class. -/
theorem HR.grow {μ : Ren} {st st' : St} {h : Array Obj} {base b k : Nat} {o : AObj} {L L' : Loc} {o' : Obj} (hr : HR μ st h base)
    (hb : μ b = some L) (hk : k < st.next) (hn : st'.next = st.next + 1) (hh : ∀ m, st'.heap.get m = if m = st.next then some o else st.heap.get m)
    (ho : clsOf o = some k) (hc : ∀ j, st'.cls.get j = if j = k then some [st.next, b] else st.cls.get j)
    (honly : ∀ c p, st.heap.get c = some p → clsOf p = some k → c = b)
    (halias : ∀ c M p, μ c = some M → st.heap.get c = some p → isLive p = true → M.blk = L'.blk → clsOf p = some k)
    (hL : base ≤ L'.blk ∧ L'.blk < h.size) (hobj : h[L'.blk]? = some o' ∧ ObjR (upd μ st.next L') o L' o') : HR (upd μ st.next L') st' h base := by
  have hf := hr.fresh st.next (Nat.le_refl _)
  have hsub : Sub μ (upd μ st.next L') := sub_upd L' hf
  refine ⟨?_, ?_, ?_, ?_, ?_, ?_, ?_, hr.le⟩
  · intro c hcn
    rw [upd_ne μ L' (by omega)]
    exact hr.fresh c (by omega)
  · intro c M hM
    by_cases e : c = st.next
    · subst e; rw [upd_self] at hM; cases hM; exact hL
    · rw [upd_ne μ L' e] at hM; exact hr.inn c M hM
  · intro c p hp
    rw [hh] at hp
    by_cases e : c = st.next
    · omega
    · rw [if_neg e] at hp; have := hr.heapIn c p hp; omega
  · intro c M p hM hp
    rw [hh] at hp
    by_cases e : c = st.next
    · subst e; rw [upd_self] at hM; cases hM
      rw [if_pos rfl] at hp; cases hp
      exact ⟨o', hobj⟩
    · rw [upd_ne μ L' e] at hM; rw [if_neg e] at hp
      obtain ⟨p', a, q⟩ := hr.obj c M p hM hp
      exact ⟨p', a, q.mono hsub⟩
  · intro c d M N p q hM hN hp hq lp lq hne hblk
    rw [hh] at hp hq
    by_cases e : c = st.next
    · have e' : d ≠ st.next := fun x => hne (e.trans x.symm)
      subst e; rw [upd_self] at hM; cases hM
      rw [if_pos rfl] at hp; cases hp
      rw [upd_ne μ L' e'] at hN; rw [if_neg e'] at hq
      exact ⟨k, ho, halias d N q hN hq lq hblk.symm⟩
    · by_cases e' : d = st.next
      · subst e'; rw [upd_self] at hN; cases hN
        rw [if_pos rfl] at hq; cases hq
        rw [upd_ne μ L' e] at hM; rw [if_neg e] at hp
        exact ⟨k, halias c M p hM hp lp hblk, ho⟩
      · rw [upd_ne μ L' e] at hM; rw [upd_ne μ L' e'] at hN
        rw [if_neg e] at hp; rw [if_neg e'] at hq
        exact hr.sep c d M N p q hM hN hp hq lp lq hne hblk
  · intro c p k' hp hk'
    rw [hh] at hp
    rw [hn, hc]
    by_cases e : c = st.next
    · subst e; rw [if_pos rfl] at hp; cases hp
      rw [ho] at hk'; cases hk'
      exact ⟨by omega, [st.next, b], by simp, by simp⟩
    · rw [if_neg e] at hp
      obtain ⟨a, l, g, m⟩ := hr.cls c p k' hp hk'
      by_cases ek : k' = k
      · subst ek
        have := honly c p hp hk'
        subst this
        exact ⟨by omega, [st.next, c], by simp, by simp⟩
      · exact ⟨by omega, l, by rw [if_neg ek]; exact g, m⟩
  · intro j l c hj hcl
    rw [hc] at hj
    by_cases e : j = k
    · rw [if_pos e] at hj; cases hj
      simp only [List.mem_cons, List.not_mem_nil, or_false] at hcl
      rcases hcl with rfl | rfl
      · exact .inl ⟨L', upd_self _ _ _⟩
      · exact .inl ⟨L, hsub.1 _ _ hb⟩
    · rw [if_neg e] at hj
      rcases hr.clsIn j l c hj hcl with ⟨M, hM⟩ | g
      · exact .inl ⟨M, hsub.1 _ _ hM⟩
      · exact .inr g

section
variable {P : Program} {E : Env} {μ : Ren} {st : St} {w : World} {base : Nat}

theorem growOpen_spec {a : Addr} {el off sz : Nat} {all : List Value} {b' : Nat} {st' : St} (h : growOpen st a el off sz all = some (b', st')) :
    ∃ n c cls st1 h1 c', st.heap.get a.block = some (.cells n c sz el true false cls) ∧ off ≤ n ∧ (∀ v ∈ all, flat v = true) ∧ st.kill a.block cls = some st1 ∧
      st1.heap.set a.block (.cells off c sz el true false cls) = some h1 ∧ treeOf all 0 .nil = some c' ∧ b' = st1.next ∧ st'.next = st1.next + 1 ∧
      (∀ m, st'.heap.get m = if m = st1.next then some (.cells all.length c' sz el true false cls) else h1.get m) ∧
      (∀ j, st'.cls.get j = if j = cls then some [st1.next, a.block] else st1.cls.get j) := by
  unfold growOpen at h
  cases hg : st.heap.get a.block with
  | none => rw [hg] at h; cases h
  | some ob =>
    rw [hg] at h
    cases ob with
    | cells n c sz' el2 op fz cls =>
      cases op with
      | false => cases h
      | true => cases fz with
        | true => cases h
        | false =>
          simp only [] at h
          cases hc : (Nat.beq sz' sz && (Nat.beq el2 el && (Nat.ble off n && all.all flat))) with
          | false => rw [hc] at h; cases h
          | true =>
            rw [hc] at h
            simp only [cond_true] at h
            rw [Bool.and_eq_true, Bool.and_eq_true, Bool.and_eq_true] at hc
            have e1 : sz' = sz := Nat.eq_of_beq_eq_true hc.1
            have e0 : el2 = el := Nat.eq_of_beq_eq_true hc.2.1
            have e2 : off ≤ n := Nat.le_of_ble_eq_true hc.2.2.1
            have e3 : ∀ v ∈ all, flat v = true := by have := hc.2.2.2; rw [List.all_eq_true] at this; exact this
            subst e1
            subst e0
            cases hk : st.kill a.block cls with
            | none => rw [hk] at h; cases h
            | some st1 =>
              rw [hk] at h
              simp only [] at h
              cases hs : st1.heap.set a.block (.cells off c sz' el2 true false cls) with
              | none => rw [hs] at h; cases h
              | some h1 =>
                cases ht : treeOf all 0 .nil with
                | none => rw [hs, ht] at h; cases h
                | some c' =>
                  rw [hs, ht] at h
                  simp only [] at h
                  cases hp : ({ st1 with heap := h1 } : St).push (.cells all.length c' sz' el2 true false cls) with
                  | none => rw [hp] at h; cases h
                  | some q =>
                    obtain ⟨b2, st2⟩ := q
                    rw [hp] at h
                    simp only [] at h
                    cases hk2 : st2.cls.set cls [b2, a.block] with
                    | none => rw [hk2] at h; cases h
                    | some k2 =>
                      rw [hk2] at h
                      simp only [Option.some.injEq, Prod.mk.injEq] at h
                      obtain ⟨rfl, rfl⟩ := h
                      obtain ⟨p1, p2, p3, p4⟩ := St.push_spec hp
                      simp only [] at p1 p2 p3 p4
                      refine ⟨n, c, cls, st1, h1, c', rfl, e2, e3, hk, hs, rfl, p1, p2, p4, fun j => ?_⟩
                      have := Tr.get_set hk2 j
                      rw [this, p1, p3]
    | _ => cases h

theorem nextcap_le (need old : Nat) (h : old < need) : Builtin.nextslicecap need old ≤ 2 * need + 1000 := by
  have key : ∀ (r c : Nat), c ≤ 2 * need + 1000 → Builtin.growBy need r c ≤ 2 * need + 1000 := by
    intro r
    induction r with
    | zero => intro c hc; exact hc
    | succ r ih =>
      intro c hc
      simp only [Builtin.growBy]
      split
      · exact hc
      · exact ih _ (by omega)
  unfold Builtin.nextslicecap
  split
  · omega
  · split
    · omega
    · exact key 4 old (by omega)

/-- What the model does when there is no room. -/
theorem run_grow (hE : EnvOK P E) {ts : Array TypeId} {ty t u e : TypeId} {i j ei : TI} (ht : ts[0]? = some t) (hu : ts[1]? = some u) (hi : E.ti.get t = some i) (hj : E.ti.get u = some j)
    (hiu : i.und = .slice e) (hju : ∀ k, j.und ≠ .int k) (he : E.ti.get e = some ei) {args : Array Value} {base' : Option Addr} {len cap n : Nat} {x : Value} (ha0 : args[0]? = some (.slice base' len cap)) (ha1 : args[1]? = some x)
    (hn : (Builtin.lenOf x).run P w = .ok n w) (hbig : len + n ≤ 1000000) (hby : ei.bytes ≤ 100000) {old new : Array Value} (hold : ∀ w1 : World, w1.heap = w.heap → (Builtin.firstCells ei.size len (.slice base' len cap)).run P w1 = .ok old w1)
    (hnew : ∀ w1 : World, w1.heap = w.heap → (Builtin.firstCells ei.size n x).run P w1 = .ok new w1) (hgt : cap < len + n) :
    ∃ newCap, len + n ≤ newCap ∧ (Builtin.append_ ts ty args).run P w = .ok (.slice (some ⟨w.heap.size, 0, none⟩) (len + n) newCap)
      ((w.drew).alloc (.cells (old ++ new ++ Builtin.zeroCells ei.zero.cells (newCap - (len + n))) e)) := by
  obtain ⟨info, hinf, f1, f2, f3⟩ := hE.run_info he w
  have hundt := hE.run_und hi w
  rw [hiu] at hundt
  have hundu := hE.run_und hj w
  have hzeros : (match j.und with | .int _ => true | _ => false) = false := by
    cases hc : j.und <;> first | rfl | exact absurd hc (hju _)
  have hinfw : ∀ w1 : World, (typeInfo e).run P w1 = .ok info w1 := by
    intro w1
    obtain ⟨info', a, _⟩ := hE.info e ei he
    obtain ⟨i2, b, _⟩ := hE.run_info he w1
    simp only [typeInfo, Sem.run_bind, run_program, Result.andThen_ok] at hinf b ⊢
    rw [a] at hinf ⊢
    simp only [Sem.run_pure, Result.ok.injEq, and_true] at hinf
    rw [← hinf]; rfl
  refine ⟨Question.cut (.appendCap (len + n) cap e) (w.tape w.drawn (.appendCap (len + n) cap e)), by simp only [Question.cut]; omega, ?_⟩
  have hle : ¬ (len + n ≤ cap) := by omega
  have hb2 : ¬ (Builtin.nextslicecap (len + n) cap * info.bytes > 2 ^ 48) := by
    have h1 := nextcap_le (len + n) cap hgt
    have h2 : Builtin.nextslicecap (len + n) cap * info.bytes ≤ 2001000 * 100000 := Nat.mul_le_mul (by omega) (by omega)
    omega
  have hmax : ¬ ((((len + n : Nat) : Int) > IntKind.i64.max) ∧ (false = true ∨ info.bytes = 0)) := by
    have e1 : IntKind.i64.max = 9223372036854775807 := by decide
    rw [e1]; omega
  unfold Builtin.append_
  have hfo : (Question.appendCap (len + n) cap e).forced = false := rfl
  have hib : ¬ ((((len + n : Nat) : Int) > IntKind.i64.max) ∧ (info.bytes = 0)) := fun g => hmax ⟨g.1, .inr g.2⟩
  simp only [ht, ha0, ha1, hu, Sem.run_bind, hundt, hundu, Result.andThen_ok, Sem.run_pure, hE.run_size he, hn, hle, if_false, hzeros, Bool.false_eq_true, Bool.not_false, if_true, false_or, Sem.run_ite]
  have hroom : ∀ (k : Nat) (w1 : World), (askRoom k).run P w1 = .ok () w1 := by
    intro k w1
    unfold askRoom
    split <;> rfl
  simp only [hinf, Result.andThen_ok]
  rw [if_neg (by have e1 : IntKind.i64.max = 9223372036854775807 := by decide
                 rw [e1]; omega)]
  simp only [hb2, if_false, run_choose_drew, hfo, Bool.false_eq_true, Result.andThen_ok, hinfw, hroom]
  rw [hold w.drew rfl]
  simp only [Result.andThen_ok]
  rw [hnew w.drew rfl]
  simp only [Result.andThen_ok, hE.run_zero he]
  rfl

end
end Go.Det
