/- What is made is appended; what comes to more than one end. -/
import Derived.Test.YtofiafmbiedjnaaGreatDoorDetOps13
set_option autoImplicit false
namespace Go.Det

section
variable {P : Program} {E : Env} {μ : Ren} {st : St} {w : World} {base : Nat}

theorem wrap_lim {m : Int} (h1 : 1 ≤ m) (h2 : m ≤ 1000000) : IntKind.i64.wrap m = m := by
  have e1 : (2 ^ IntKind.i64.bits : Int) = 18446744073709551616 := by decide
  have e2 : (2 ^ (IntKind.i64.bits - 1) : Int) = 9223372036854775808 := by decide
  have e3 : m % 18446744073709551616 = m := by omega
  unfold IntKind.wrap
  simp only [e1, e2, e3]
  rw [if_neg]
  intro h
  simp only [Bool.and_eq_true, decide_eq_true_eq] at h
  omega

theorem run_growZ (hE : EnvOK P E) {ts : Array TypeId} {ty t u e : TypeId} {i j ei : TI} {ik k2 : IntKind} (ht : ts[0]? = some t) (hu : ts[1]? = some u) (hi : E.ti.get t = some i) (hj : E.ti.get u = some j)
    (hiu : i.und = .slice e) (hju : j.und = .int ik) (he : E.ti.get e = some ei) {args : Array Value} {base' : Option Addr} {len cap : Nat} {m : Int} (ha0 : args[0]? = some (.slice base' len cap)) (ha1 : args[1]? = some (.int k2 m))
    (hm1 : 1 ≤ m) (hm2 : m ≤ 1000000) (hbig : len + m.toNat ≤ 1000000) (hby : ei.bytes ≤ 100000) (hsz : ei.size ≠ 0) {old : Array Value} (hold : ∀ w1 : World, w1.heap = w.heap → (Builtin.firstCells ei.size len (.slice base' len cap)).run P w1 = .ok old w1)
    (hgt : cap < len + m.toNat) :
    ∃ newCap, len + m.toNat ≤ newCap ∧ (Builtin.append_ ts ty args).run P w = .ok (.slice (some ⟨w.heap.size, 0, none⟩) (len + m.toNat) newCap)
      ((w.drew).alloc (.cells (old ++ Builtin.zeroCells ei.zero.cells m.toNat ++ Builtin.zeroCells ei.zero.cells (newCap - (len + m.toNat))) e)) := by
  obtain ⟨info, hinf, f1, f2, f3⟩ := hE.run_info he w
  have hundt := hE.run_und hi w
  rw [hiu] at hundt
  have hundu := hE.run_und hj w
  rw [hju] at hundu
  have hinfw : ∀ w1 : World, (typeInfo e).run P w1 = .ok info w1 := by
    intro w1
    obtain ⟨info', a, _⟩ := hE.info e ei he
    obtain ⟨i2, b, _⟩ := hE.run_info he w1
    simp only [typeInfo, Sem.run_bind, run_program, Result.andThen_ok] at hinf b ⊢
    rw [a] at hinf ⊢
    simp only [Sem.run_pure, Result.ok.injEq, and_true] at hinf
    rw [← hinf]; rfl
  refine ⟨Question.cut (.appendCap (len + m.toNat) cap e) (w.tape w.drawn (.appendCap (len + m.toNat) cap e)), by simp only [Question.cut]; omega, ?_⟩
  have hle : ¬ (len + m.toNat ≤ cap) := by omega
  have hwr := wrap_lim hm1 hm2
  have hnn : ¬ (m < 0) := by omega
  have hnz : ¬ (m.toNat * ei.size = 0) := by
    intro g
    rcases Nat.mul_eq_zero.1 g with g | g
    · omega
    · exact hsz g
  have hb0 : ¬ (m * (info.bytes : Int) > 2 ^ 48) := by
    have h1 : m * (info.bytes : Int) ≤ 1000000 * 100000 := by
      have a1 : m * (info.bytes : Int) ≤ 1000000 * (info.bytes : Int) := Int.mul_le_mul_of_nonneg_right hm2 (by omega)
      have a2 : (info.bytes : Int) ≤ 100000 := by omega
      omega
    have h2 : (2 : Int) ^ 48 = 281474976710656 := by decide
    omega
  have hb2 : ¬ (Builtin.nextslicecap (len + m.toNat) cap * info.bytes > 2 ^ 48) := by
    have h1 := nextcap_le (len + m.toNat) cap hgt
    have h2 : Builtin.nextslicecap (len + m.toNat) cap * info.bytes ≤ 2001000 * 100000 := Nat.mul_le_mul (by omega) (by omega)
    omega
  have hfo : (Question.appendCap (len + m.toNat) cap e).forced = false := rfl
  have hroom : ∀ (k : Nat) (w1 : World), (askRoom k).run P w1 = .ok () w1 := by
    intro k w1
    unfold askRoom
    split <;> rfl
  unfold Builtin.append_
  simp only [ht, ha0, ha1, hu, Sem.run_bind, hundt, hundu, Result.andThen_ok, Sem.run_pure, hE.run_size he, asInt, asIntOf, hwr, hnn, if_false, if_true, hinf, hb0, hle, Bool.not_true, Bool.false_eq_true, Sem.run_ite, true_or, and_true]
  rw [if_neg (by have e1 : IntKind.i64.max = 9223372036854775807 := by decide
                 rw [e1]; omega)]
  simp only [hb2, if_false, run_choose_drew, hfo, Bool.false_eq_true, Result.andThen_ok, hinfw, hroom]
  rw [hold w.drew rfl]
  simp only [Result.andThen_ok, hnz, if_false, hE.run_zero he, Sem.run_bind, Sem.run_pure]
  rfl

theorem appendZ_sound (hE : EnvOK P E) (hr : HR μ st w.heap base) {ts : Array TypeId} {ty : TypeId} {args : List Value} {args' : Array Value} {v : Value} {st' : St} (h : appendZ E st ts args = some (v, st')) (ha : VRL μ args args'.toList) :
    Snd P μ st w base (Builtin.append_ ts ty args') v st' := by
  unfold appendZ at h
  split at h
  · rename_i t u trest base0 len cap ik2 m xrest hts
    have ht0 : ts[0]? = some t := by rw [← Array.getElem?_toList, hts]; rfl
    have ht1 : ts[1]? = some u := by rw [← Array.getElem?_toList, hts]; rfl
    generalize hargs : args'.toList = la at ha
    cases ha with
    | cons hs htl =>
      rename_i s' r'
      cases htl with
      | cons hx hxr =>
        rename_i x' r2'
        have ha0 : args'[0]? = some s' := by rw [← Array.getElem?_toList, hargs]; rfl
        have ha1 : args'[1]? = some x' := by rw [← Array.getElem?_toList, hargs]; rfl
        cases hx
        cases hi : E.ti.get t with
        | none => rw [hi] at h; cases h
        | some i =>
          cases hj : E.ti.get u with
          | none => rw [hi, hj] at h; cases h
          | some j =>
            rw [hi, hj] at h
            simp only [] at h
            split at h
            · rename_i ik e hju hiu
              cases he : E.ti.get e with
              | none => rw [he] at h; cases h
              | some ei =>
                rw [he] at h
                simp only [] at h
                split at h
                · cases h
                · rename_i hc
                  have hm1 : 1 ≤ m := by
                    have g : ¬ m < 1 := fun g => hc (.inl g)
                    omega
                  have hm2 : m ≤ 1000000 := by
                    have g : ¬ 1000000 < m := fun g => hc (.inr (.inl g))
                    omega
                  have hbig : len + m.toNat ≤ 1000000 := by
                    have g : ¬ 1000000 < len + m.toNat := fun g => hc (.inr (.inr (.inl g)))
                    omega
                  have hby : ei.bytes ≤ 100000 := by
                    have g : ¬ 100000 < ei.bytes := fun g => hc (.inr (.inr (.inr (.inl g))))
                    omega
                  have hcb : cap < big := by
                    have g : ¬ big ≤ cap := fun g => hc (.inr (.inr (.inr (.inr (.inl g)))))
                    omega
                  have hlt : cap < len + m.toNat := by
                    have g : ¬ len + m.toNat ≤ cap := fun g => hc (.inr (.inr (.inr (.inr (.inr (.inl g))))))
                    omega
                  have hsz : ei.size ≠ 0 := fun g => hc (.inr (.inr (.inr (.inr (.inr (.inr g))))))
                  cases hf : st.firsts ei.size len (.slice base0 len cap) with
                  | none => rw [hf] at h; cases h
                  | some old =>
                    rw [hf] at h
                    simp only [] at h
                    cases hp : st.row (old ++ zeros (cellsOf ei.zero) m.toNat) ei.size e true with
                    | none => rw [hp] at h; cases h
                    | some q =>
                      obtain ⟨b, s1⟩ := q
                      rw [hp] at h
                      simp only [Option.some.injEq, Prod.mk.injEq] at h
                      obtain ⟨rfl, rfl⟩ := h
                      obtain ⟨old', hold1, hold2⟩ := firsts_all (P := P) hr hf hs (fun k hk => by simp only [lenA, Option.some.injEq] at hk; omega)
                      have holen : old.length = len * ei.size := by
                        cases base0 with
                        | none =>
                          cases hs with
                          | snil =>
                            simp only [St.firsts, Option.some.injEq] at hf
                            subst hf; simp
                        | some a => exact firsts_slice_length hf
                      have hs' : ∃ base', s' = .slice base' len cap := by
                        cases hs with
                        | snil => exact ⟨_, rfl⟩
                        | slice b o L _ _ o' cap' hb hsl => have := (hsl.2.1 hcb).1; subst this; exact ⟨_, rfl⟩
                      obtain ⟨base', rfl⟩ := hs'
                      obtain ⟨newCap, hle, hrun⟩ := run_growZ (ty := ty) hE ht0 ht1 hi hj hiu hju he ha0 ha1 hm1 hm2 hbig hby hsz hold1 hlt
                      have hzl := (hE.zero e ei he).2
                      have hv : VRL μ (zeros (cellsOf ei.zero) m.toNat) (Builtin.zeroCells ei.zero.cells m.toNat).toList :=
                        VRL.of_get (by simp [zeros_length, zeroCells_size, cellsOf]) (fun j u hu => by
                          obtain ⟨u', a, b⟩ := zeros_rel μ hE he m.toNat j u hu
                          exact ⟨u', by rw [Array.getElem?_toList]; exact a, b⟩)
                      obtain ⟨f1, f2, f3⟩ := grown_facts (μ := μ) hE he hold2 hv holen (by rw [zeros_length, hzl]) hle
                      obtain ⟨μ', g1, g2, g3⟩ := newRow_sound (w1 := w.drew) (w2 := w.drew.alloc (.cells (old' ++ Builtin.zeroCells ei.zero.cells m.toNat ++ Builtin.zeroCells ei.zero.cells (newCap - (len + m.toNat))) e)) hr hp
                        (c' := old' ++ Builtin.zeroCells ei.zero.cells m.toNat ++ Builtin.zeroCells ei.zero.cells (newCap - (len + m.toNat))) (el' := e) (fz := (0, 0)) (by rw [f1]; exact f2) (fun g => by cases g) f3 rfl rfl rfl rfl rfl rfl (noFreeze _)
                      exact ⟨_, _, μ', hrun, VR.open0 g3 hle f1.symm, g1, g2⟩
            · cases h
  · cases h

/-- What is handed back is one of these. -/
def SndL (P : Program) (μ : Ren) (st : St) (w : World) (base : Nat) (s : Sem Value) (l : List RRes) : Prop :=
  ∃ x ∈ l, Snd P μ st w base s x.v x.s

theorem forkAppend_sound (hE : EnvOK P E) (hr : HR μ st w.heap base) {ts : Array TypeId} {ty : TypeId} {args : List Value} {args' : Array Value} {l : List RRes} (h : forkAppend E st ts args = some l) (ha : VRL μ args args'.toList) :
    SndL P μ st w base (Builtin.append_ ts ty args') l := by
  unfold forkAppend at h
  split at h
  · rename_i t u trest base0 len cap x xrest hts
    have ht0 : ts[0]? = some t := by rw [← Array.getElem?_toList, hts]; rfl
    have ht1 : ts[1]? = some u := by rw [← Array.getElem?_toList, hts]; rfl
    generalize hargs : args'.toList = la at ha
    cases ha with
    | cons hs htl =>
      rename_i s' r'
      cases htl with
      | cons hx hxr =>
        rename_i x' r2'
        have ha0 : args'[0]? = some s' := by rw [← Array.getElem?_toList, hargs]; rfl
        have ha1 : args'[1]? = some x' := by rw [← Array.getElem?_toList, hargs]; rfl
        cases hcnd : (E.forks.any (Nat.beq t) && (base0.isSome && Nat.beq len 0) && Nat.blt cap big) with
        | false => rw [hcnd] at h; cases h
        | true =>
          rw [hcnd] at h
          simp only [cond_true] at h
          have hcb : cap < big := by
            rw [Bool.and_eq_true] at hcnd
            simpa [Nat.blt_eq] using hcnd.2
          cases hi : E.ti.get t with
          | none => rw [hi] at h; cases h
          | some i =>
            cases hj : E.ti.get u with
            | none => rw [hi, hj] at h; cases h
            | some j =>
              rw [hi, hj] at h
              simp only [] at h
              split at h
              · rename_i e hjf hiu
                have hju : ∀ k, j.und ≠ .int k := fun k hk => by rw [hk] at hjf; cases hjf
                cases he : E.ti.get e with
                | none => rw [he] at h; cases h
                | some ei =>
                  cases hl : lenA x with
                  | none => rw [he, hl] at h; cases h
                  | some n =>
                    rw [he, hl] at h
                    simp only [] at h
                    cases hfn : st.firsts ei.size n x with
                    | none => rw [hfn] at h; cases h
                    | some new =>
                      cases hf : st.firsts ei.size len (.slice base0 len cap) with
                      | none => rw [hfn, hf] at h; cases h
                      | some old =>
                        rw [hfn, hf] at h
                        simp only [] at h
                        cases hc : (Nat.beq ei.size 0 || Nat.beq n 0 || Nat.ble (Nat.add len n) cap || Nat.blt 1000000 (Nat.add len n) || Nat.blt 100000 ei.bytes || !Nat.beq new.length (Nat.mul n ei.size)) with
                        | true => rw [hc] at h; cases h
                        | false =>
                          rw [hc] at h
                          simp only [cond_false] at h
                          simp only [Bool.or_eq_false_iff] at hc
                          obtain ⟨⟨⟨⟨⟨c1, c2⟩, c3⟩, c4⟩, c5⟩, c6⟩ := hc
                          have hnlen : new.length = n * ei.size := by
                            have : Nat.beq new.length (Nat.mul n ei.size) = true := by simpa using c6
                            exact Nat.eq_of_beq_eq_true this
                          have hlt : cap < len + n := by
                            rcases Nat.lt_or_ge cap (len + n) with g | g
                            · exact g
                            · have : Nat.ble (Nat.add len n) cap = true := by rw [Nat.ble_eq]; exact g
                              rw [this] at c3; cases c3
                          have hb1 : len + n ≤ 1000000 := by
                            rcases Nat.lt_or_ge 1000000 (len + n) with g | g
                            · have : Nat.blt 1000000 (Nat.add len n) = true := by rw [Nat.blt_eq]; exact g
                              rw [this] at c4; cases c4
                            · exact g
                          have hb2 : ei.bytes ≤ 100000 := by
                            rcases Nat.lt_or_ge 100000 ei.bytes with g | g
                            · have : Nat.blt 100000 ei.bytes = true := by rw [Nat.blt_eq]; exact g
                              rw [this] at c5; cases c5
                            · exact g
                          cases hp : st.row (old ++ new) ei.size e false with
                          | none => rw [hp] at h; cases h
                          | some q =>
                            obtain ⟨b, s1⟩ := q
                            cases hp2 : st.row (old ++ (new ++ cellsOf ei.zero)) ei.size e true with
                            | none => rw [hp, hp2] at h; cases h
                            | some q2 =>
                              obtain ⟨b2, s2⟩ := q2
                              rw [hp, hp2] at h
                              simp only [Option.some.injEq] at h
                              obtain ⟨old', hold1, hold2⟩ := firsts_all (P := P) hr hf hs (fun k hk => by simp only [lenA, Option.some.injEq] at hk; omega)
                              obtain ⟨new', hnew1, hnew2⟩ := firsts_all (P := P) hr hfn hx (fun k hk => by rw [hl] at hk; cases hk; exact Nat.le_refl _)
                              have hnrun := lenOf_sound (P := P) (w := w) hl hx
                              have holen : old.length = len * ei.size := by
                                cases base0 with
                                | none =>
                                  cases hs with
                                  | snil =>
                                    simp only [St.firsts, Option.some.injEq] at hf
                                    subst hf; simp
                                | some a => exact firsts_slice_length hf
                              have hs' : ∃ base', s' = .slice base' len cap := by
                                cases hs with
                                | snil => exact ⟨_, rfl⟩
                                | slice b o L _ _ o' cap' hb hsl => have := (hsl.2.1 hcb).1; subst this; exact ⟨_, rfl⟩
                              obtain ⟨base', rfl⟩ := hs'
                              obtain ⟨newCap, hle, hrun⟩ := run_grow (ty := ty) hE ht0 ht1 hi hj hiu hju he ha0 ha1 hnrun hb1 hb2 hold1 hnew1 hlt
                              have hzl := (hE.zero e ei he).2
                              rcases Nat.lt_or_ge (len + n) newCap with hgt | hge
                              · -- room for one more
                                refine ⟨{ v := .slice (some ⟨b2, 0, none⟩) (Nat.add len n) opn, s := s2 }, by rw [← h]; simp, ?_⟩
                                obtain ⟨f1, f2, f3⟩ := grown_facts (μ := μ) hE he hold2 hnew2 holen hnlen hle
                                have hos := hold2.length
                                have hns := hnew2.length
                                simp only [Array.length_toList] at hos hns
                                have hmul : (len + n) * ei.size + ei.size ≤ newCap * ei.size := by
                                  have := Nat.mul_le_mul_right ei.size (show len + n + 1 ≤ newCap by omega)
                                  rw [Nat.add_mul (len + n) 1] at this
                                  omega
                                have hadd : (len + n) * ei.size = len * ei.size + n * ei.size := Nat.add_mul _ _ _
                                have key : ∀ (i : Nat) (v : Value), (old ++ (new ++ cellsOf ei.zero))[i]? = some v → ∃ v', (old' ++ new' ++ Builtin.zeroCells ei.zero.cells (newCap - (len + n)))[i]? = some v' ∧ VR μ v v' := by
                                  intro i v hi
                                  rw [← List.append_assoc] at hi
                                  rcases Nat.lt_or_ge i (old ++ new).length with g | g
                                  · rw [List.getElem?_append_left g] at hi; exact f3 i v hi
                                  · rw [List.getElem?_append_right g] at hi
                                    have hil : i - (old ++ new).length < (cellsOf ei.zero).length := (List.getElem?_eq_some_iff.1 hi).1
                                    have h1 : 1 * (cellsOf ei.zero).length ≤ (newCap - (len + n)) * (cellsOf ei.zero).length := Nat.mul_le_mul_right _ (by omega)
                                    obtain ⟨u', a, c⟩ := zeros_rel μ hE he (newCap - (len + n)) (i - (old ++ new).length) v (by rw [zeros_get _ _ _ (by omega), Nat.mod_eq_of_lt hil]; exact hi)
                                    refine ⟨u', ?_, c⟩
                                    have hsz : (old' ++ new').size = (old ++ new).length := by
                                      simp only [Array.size_append, List.length_append]; omega
                                    rw [Array.getElem?_append_right (by rw [hsz]; exact g), hsz]
                                    exact a
                                obtain ⟨μ', g1, g2, g3⟩ := newRow_sound (w1 := w.drew) (w2 := w.drew.alloc (.cells (old' ++ new' ++ Builtin.zeroCells ei.zero.cells (newCap - (len + n))) e)) hr hp2
                                  (c' := old' ++ new' ++ Builtin.zeroCells ei.zero.cells (newCap - (len + n))) (el' := e) (fz := (0, 0)) (by rw [f1]; simp only [List.length_append]; omega) (fun g => by cases g) key rfl rfl rfl rfl rfl rfl (noFreeze _)
                                exact ⟨_, _, μ', hrun, VR.open0 g3 hle f1.symm, g1, g2⟩
                              · have heq : newCap = len + n := by omega
                                refine ⟨{ v := .slice (some ⟨b, 0, none⟩) (Nat.add len n) (Nat.add len n), s := s1 }, by rw [← h]; simp, ?_⟩
                                obtain ⟨f1, f2, f3⟩ := grown_facts (μ := μ) hE he hold2 hnew2 holen hnlen hle
                                obtain ⟨μ', g1, g2, g3⟩ := newRow_sound (w1 := w.drew) (w2 := w.drew.alloc (.cells (old' ++ new' ++ Builtin.zeroCells ei.zero.cells (newCap - (len + n))) e)) hr hp
                                  (c' := old' ++ new' ++ Builtin.zeroCells ei.zero.cells (newCap - (len + n))) (el' := e) (fz := (0, 0)) (by rw [f1]; exact f2) (fun g => ⟨by rw [f1, heq, List.length_append, holen, hnlen, ← Nat.add_mul], rfl⟩) f3 rfl rfl rfl rfl rfl rfl (noFreeze _)
                                subst heq
                                exact ⟨_, _, μ', hrun, VR.row0 g3 (Nat.le_refl _) (by show len + n < big; unfold big; omega), g1, g2⟩
              · cases h
  · cases h

theorem run_mayBeOne (a b : Addr) : ∃ r, (mayBeOne a b).run P w = .ok r w := by
  have hst : ∀ x : Addr, ∃ r, (stringish x).run P w = .ok r w := by
    intro x
    unfold stringish
    simp only [Sem.run_bind, run_frozen, Result.andThen_ok]
    cases w.frozen? x with
    | true => exact ⟨_, rfl⟩
    | false =>
      simp only [Bool.false_eq_true, if_false, Sem.run_bind, run_shape, Result.andThen_ok]
      cases w.shape? x.block with
      | none => exact ⟨_, rfl⟩
      | some q => exact ⟨_, rfl⟩
  obtain ⟨ra, ha⟩ := hst a
  obtain ⟨rb, hb⟩ := hst b
  unfold mayBeOne
  simp only [Sem.run_bind, ha, hb, Result.andThen_ok]
  cases ra <;> cases rb <;> simp [run_shape]

theorem forkOvl_sound (hE : EnvOK P E) (hr : HR μ st w.heap base) {t : TypeId} {args : List Value} {args' : Array Value} {l : List RRes} (h : forkOvl E st t args = some l) (ha : VRL μ args args'.toList) :
    SndL P μ st w base (Extern.SlicesOverlaps.overlaps #[t, t] #[] args') l := by
  unfold forkOvl at h
  split at h
  · rename_i a la ca b lb cb
    generalize hargs : args'.toList = l' at ha
    cases ha with
    | cons hx htl =>
      cases htl with
      | cons hy hnl =>
        cases hnl
        rename_i x' y'
        have : args' = #[x', y'] := by rw [← Array.toList_inj, hargs]
        subst this
        cases hi : E.ti.get t with
        | none => rw [hi] at h; cases h
        | some i =>
          rw [hi] at h
          simp only [] at h
          cases hu : i.und with
          | slice e =>
            rw [hu] at h
            simp only [] at h
            cases he : E.ti.get e with
            | none => rw [he] at h; cases h
            | some ei =>
              rw [he] at h
              simp only [] at h
              split at h
              · rename_i n c1 s1 e1 o1 k c2 n2 s2 e2 o2 f2 m hsa hsb hca hcb
                cases hc : (Nat.beq k m || Nat.beq la 0 || Nat.beq lb 0 || !Nat.blt a.off n) with
                | true => rw [hc] at h; cases h
                | false =>
                  rw [hc] at h
                  simp only [cond_false, Option.some.injEq] at h
                  simp only [Bool.or_eq_false_iff] at hc
                  obtain ⟨⟨⟨g1, g2⟩, g3⟩, g4⟩ := hc
                  have hkm : k ≠ m := fun e => by rw [e] at g1; rw [Nat.beq_refl] at g1; cases g1
                  have hla : la ≠ 0 := fun e => by rw [e] at g2; cases g2
                  have hlb : lb ≠ 0 := fun e => by rw [e] at g3; cases g3
                  have hbool : ∀ (q : Bool) (w1 : World), w1.heap = w.heap → w1.os = w.os → w1.output = w.output → (Extern.SlicesOverlaps.overlaps #[t, t] #[] #[x', y']).run P w = .ok (.bool q) w1 →
                      SndL P μ st w base (Extern.SlicesOverlaps.overlaps #[t, t] #[] #[x', y']) l := by
                    intro q w1 h1 h2 h3 h4
                    refine ⟨{ v := .bool q, s := st }, by rw [← h]; cases q <;> simp, .bool q, w1, μ, h4, .bool q, by rw [h1]; exact hr, Ex.world h1 h2 h3⟩
                  cases hx with
                  | slice ba oa La _ _ oa' capa hba hsla =>
                    cases hy with
                    | slice bb ob Lb _ _ ob' capb hbb hslb =>
                      have hoa := hsla.off_eq (by have := hsla.1; omega)
                      subst hoa
                      obtain ⟨obja, hoba, hRa⟩ := hr.obj ba La _ hba hca
                      obtain ⟨objb, hobb, hRb⟩ := hr.obj bb Lb _ hbb hcb
                      have hne : La.blk ≠ Lb.blk := by
                        intro e
                        by_cases hbe : ba = bb
                        · subst hbe
                          have e2 := hca.symm.trans hcb
                          simp only [Option.some.injEq, AObj.cells.injEq] at e2
                          exact hkm e2.2.2.2.2.2.2
                        · obtain ⟨kk, e1, e2⟩ := hr.sep ba bb La Lb _ _ hba hbb hca hcb rfl rfl hbe e
                          simp only [clsOf, Option.some.injEq] at e1 e2
                          exact hkm (e1.trans e2.symm)
                      have hfr : w.frozen? ⟨La.blk, La.off + oa, none⟩ = false := by
                        cases obja with
                        | cells ca' ela fza =>
                          obtain ⟨r1, r2, r3, r4, r5, r6⟩ := hRa
                          have hlt : oa < n := by
                            have : Nat.blt oa n = true := by simpa using g4
                            simpa [Nat.blt_eq] using this
                          have hf := r6 rfl
                          simp only [World.frozen?, hoba]
                          obtain ⟨lo, hi⟩ := fza
                          simp only [] at hf ⊢
                          rw [Bool.eq_false_iff]
                          intro hcon
                          simp at hcon
                          omega
                        | _ => exact hRa.elim
                      have hva : (noView ⟨La.blk, La.off + oa, none⟩).run P w = .ok () w := by
                        cases obja with
                        | cells ca' ela fza => simp [noView, viewAt, World.shape?, hoba]
                        | _ => exact hRa.elim
                      have hvb : (noView ⟨Lb.blk, ob', none⟩).run P w = .ok () w := by
                        cases objb with
                        | cells ca' ela fza => simp [noView, viewAt, World.shape?, hobb]
                        | _ => exact hRb.elim
                      have hund := hE.run_und hi w
                      rw [hu] at hund
                      have hsz := hE.run_size he w
                      have hbn : (La.blk != Lb.blk) = true := by simpa using hne
                      by_cases hz : ei.size = 0
                      · refine hbool false w rfl rfl rfl ?_
                        show Sem.run P (Bind.bind (underlying t) _) w = _
                        rw [Sem.run_bind, hund, Result.andThen_ok]
                        show Sem.run P (Bind.bind (sizeOf e) _) w = _
                        rw [Sem.run_bind, hsz, Result.andThen_ok]
                        simp [hz]
                      · obtain ⟨r, hmay⟩ := run_mayBeOne (P := P) (w := w) ⟨La.blk, La.off + oa, none⟩ ⟨Lb.blk, ob', none⟩
                        cases r with
                        | false =>
                          refine hbool false w rfl rfl rfl ?_
                          have hbe : (La.blk == Lb.blk) = false := by simpa using hne
                          show Sem.run P (Bind.bind (underlying t) _) w = _
                          rw [Sem.run_bind, hund, Result.andThen_ok]
                          show Sem.run P (Bind.bind (sizeOf e) _) w = _
                          rw [Sem.run_bind, hsz, Result.andThen_ok]
                          simp [hz, hla, hlb, hne, hfr, hva, hvb, hmay]
                        | true =>
                          refine hbool (((Question.extern "sameAddr.stringBytes" 2).cut (w.tape w.drawn (Question.extern "sameAddr.stringBytes" 2))) == 1) w.drew rfl rfl rfl ?_
                          have hfo : (Question.extern "sameAddr.stringBytes" 2).forced = false := by decide
                          show Sem.run P (Bind.bind (underlying t) _) w = _
                          rw [Sem.run_bind, hund, Result.andThen_ok]
                          show Sem.run P (Bind.bind (sizeOf e) _) w = _
                          rw [Sem.run_bind, hsz, Result.andThen_ok]
                          simp [hz, hla, hlb, hne, hfr, hva, hvb, hmay, hfo]
              · cases h
          | _ => rw [hu] at h; cases h
  · cases h

end
end Go.Det
