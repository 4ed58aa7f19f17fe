/- Appending. -/
import Derived.Test.YtofiafmbiedjnaaGreatDoorDetOps8
set_option autoImplicit false
namespace Go.Det

section
variable {P : Program} {E : Env} {μ : Ren} {st : St} {w : World} {base : Nat}

theorem loads_length {a : Addr} : ∀ (n i : Nat) (l : List Value), st.loads a n i = some l → l.length = n
  | 0, i, l, h => by simp only [St.loads, Option.some.injEq] at h; subst h; rfl
  | n + 1, i, l, h => by
    simp only [St.loads] at h
    split at h
    · rename_i v r h0 h1 h2
      simp only [Option.some.injEq] at h
      subst h
      simp [loads_length n _ r h2]
    · cases h

/-- What the model does when there is room. -/
theorem run_room (hE : EnvOK P E) {ts : Array TypeId} {ty t u e : TypeId} {i j ei : TI} (ht : ts[0]? = some t) (hu : ts[1]? = some u) (hi : E.ti.get t = some i) (hj : E.ti.get u = some j)
    (hiu : i.und = .slice e) (hju : ∀ k, j.und ≠ .int k) (he : E.ti.get e = some ei) {args : Array Value} {base' : Option Addr} {len cap n : Nat} {x : Value} (ha0 : args[0]? = some (.slice base' len cap)) (ha1 : args[1]? = some x)
    (hn : (Builtin.lenOf x).run P w = .ok n w) {new : Array Value} (hnew : (Builtin.firstCells ei.size n x).run P w = .ok new w) (hle : len + n ≤ cap) {w' : World}
    (hst : match base' with | some a => (storeCells (a.add (len * ei.size)) new.toList).run P w = .ok () w' | none => w' = w) :
    (Builtin.append_ ts ty args).run P w = .ok (.slice base' (len + n) cap) w' := by
  have hundt := hE.run_und hi w
  rw [hiu] at hundt
  have hundu := hE.run_und hj w
  have hzeros : (match j.und with | .int _ => true | _ => false) = false := by
    cases hc : j.und <;> first | rfl | exact absurd hc (hju _)
  unfold Builtin.append_
  simp only [ht, ha0, ha1, hu, Sem.run_bind, hundt, hundu, Result.andThen_ok, Sem.run_pure, hE.run_size he, hn, hle, if_true, hzeros, Bool.false_eq_true, if_false, Bool.not_false, hnew]
  cases base' with
  | none => simp only [] at hst; subst hst; rfl
  | some a => simp only [] at hst; simp [hst]

theorem firsts_slice_length {sz n : Nat} {a : Addr} {k m : Nat} {l : List Value} (h : st.firsts sz n (.slice (some a) k m) = some l) : l.length = n * sz := by
  simp only [St.firsts] at h
  exact loads_length _ _ _ h

theorem firsts_all (hr : HR μ st w.heap base) {sz n : Nat} {x x' : Value} {l : List Value} (h : st.firsts sz n x = some l) (hx : VR μ x x') (hn : ∀ k, lenA x = some k → n ≤ k) :
    ∃ c : Array Value, (∀ w1 : World, w1.heap = w.heap → (Builtin.firstCells sz n x').run P w1 = .ok c w1) ∧ VRL μ l c.toList := by
  cases hx with
  | string s =>
    obtain ⟨c, h1, h2⟩ := firsts_sound (P := P) hr h (.string s) hn w rfl
    refine ⟨((s.extract 0 n).data.map fun b => Value.int .u8 b.toNat), fun w1 _ => rfl, ?_⟩
    have e : (Result.ok ((s.extract 0 n).data.map fun b => Value.int .u8 b.toNat) w : Result (Array Value)) = .ok c w := h1
    simp only [Result.ok.injEq, and_true] at e
    rw [e]; exact h2
  | snil =>
    simp only [St.firsts, Option.some.injEq] at h
    subst h
    exact ⟨#[], fun _ _ => rfl, .nil⟩
  | slice b o L len cap o' cap' hb hs =>
    simp only [St.firsts] at h
    have hnl : n ≤ len := hn len rfl
    rcases Nat.eq_zero_or_pos (Nat.mul n sz) with g | g
    · rw [g] at h
      have := loads0 h
      subst this
      have g' : n * sz = 0 := g
      exact ⟨#[], fun w1 _ => by simp [Builtin.firstCells, g', loadCells, loadCellsFrom], .nil⟩
    · have hnp : 0 < n := by
        rcases Nat.eq_zero_or_pos n with e | e
        · subst e; have g' : 0 < 0 * sz := g; simp at g'
        · exact e
      have hoff := hs.off_eq (by have := hs.1; omega)
      subst hoff
      obtain ⟨l', hlen, hc, hv⟩ := St.loads_sound hr hb _ _ _ h
      refine ⟨l'.toArray, fun w1 hw => ?_, by simpa using hv⟩
      have hcell : ∀ a, w1.cell? a = w.cell? a := fun a => by unfold World.cell?; rw [hw]
      have hrun := run_loadCells_list (P := P) (w := w1) ⟨L.blk, L.off + o, none⟩ l' (fun j u hu => by rw [add_none, hcell]; have := hc j u hu; simpa using this)
      rw [hlen] at hrun
      simpa [Builtin.firstCells] using hrun
  | _ => cases h

theorem firsts_zero {sz : Nat} {x : Value} {l : List Value} (h : st.firsts sz 0 x = some l) : l = [] := by
  cases x <;> simp only [St.firsts] at h <;> first
    | (cases h; done)
    | (simp only [Option.some.injEq] at h; subst h; simp; done)
    | skip
  rename_i a _ _
  cases a with
  | none => simp only [St.firsts, Option.some.injEq] at h; exact h.symm
  | some a =>
    simp only [St.firsts] at h
    have e1 : Nat.mul 0 sz = 0 := Nat.zero_mul _
    rw [e1] at h
    exact loads0 h

theorem zeroCells_size (z : Array Value) (k : Nat) : (Builtin.zeroCells z k).size = k * z.size := by simp [Builtin.zeroCells]

/-- The grown array. -/
theorem grown_facts (hE : EnvOK P E) {e : TypeId} {ei : TI} (he : E.ti.get e = some ei) {len n newCap : Nat} {old new : List Value} {old' new' : Array Value} (ho : VRL μ old old'.toList) (hn : VRL μ new new'.toList)
    (hol : old.length = len * ei.size) (hnl : new.length = n * ei.size) (hle : len + n ≤ newCap) :
    (old' ++ new' ++ Builtin.zeroCells ei.zero.cells (newCap - (len + n))).size = newCap * ei.size ∧ (old ++ new).length ≤ newCap * ei.size ∧
    ∀ (i : Nat) (v : Value), (old ++ new)[i]? = some v → ∃ v', (old' ++ new' ++ Builtin.zeroCells ei.zero.cells (newCap - (len + n)))[i]? = some v' ∧ VR μ v v' := by
  have h1 := ho.length
  have h2 := hn.length
  simp only [Array.length_toList] at h1 h2
  have hs : len * ei.size + n * ei.size + (newCap - (len + n)) * ei.size = newCap * ei.size := by
    rw [← Nat.add_mul, ← Nat.add_mul]; congr 1; omega
  refine ⟨?_, ?_, ?_⟩
  · simp only [Array.size_append, zeroCells_size, size_zero hE he]; omega
  · simp only [List.length_append]; omega
  · intro i v hi
    obtain ⟨v', a, b⟩ := (ho.append hn).get hi
    refine ⟨v', ?_, b⟩
    have hlt : i < (old'.toList ++ new'.toList).length := (List.getElem?_eq_some_iff.1 a).1
    simp only [List.length_append, Array.length_toList] at hlt
    rw [Array.getElem?_append_left (by simpa using hlt), ← Array.getElem?_toList, Array.toList_append]
    exact a

theorem appendTo_sound (hE : EnvOK P E) (hr : HR μ st w.heap base) {ts : Array TypeId} {ty t u e : TypeId} {i j ei : TI} (ht : ts[0]? = some t) (hu : ts[1]? = some u) (hi : E.ti.get t = some i) (hj : E.ti.get u = some j)
    (hiu : i.und = .slice e) (hju : ∀ k, j.und ≠ .int k) (he : E.ti.get e = some ei) {args' : Array Value} {s' x x' : Value} {base0 : Option Addr} {len cap n : Nat} {new : List Value}
    (ha0 : args'[0]? = some s') (ha1 : args'[1]? = some x') (hs : VR μ (.slice base0 len cap) s') (hx : VR μ x x') (hl : lenA x = some n) (hnew : st.firsts ei.size n x = some new)
    (hlen : new.length = n * ei.size) (hn0 : n ≠ 0) {v : Value} {st' : St} (h : appendTo st e ei base0 len cap n new = some (v, st')) : Snd P μ st w base (Builtin.append_ ts ty args') v st' := by
  unfold appendTo at h
  simp only [] at h
  split at h
  · cases h
  rename_i hlim
  have hb1 : len + n ≤ 1000000 := by
    have h1 : ¬ (1000000 < Nat.add len n) := fun g => hlim (.inl g)
    have e1 : Nat.add len n = len + n := rfl
    omega
  have hb2 : ei.bytes ≤ 100000 := by
    have h1 : ¬ (100000 < ei.bytes) := fun g => hlim (.inr g)
    omega
  have hnrun := lenOf_sound (P := P) (w := w) hl hx
  obtain ⟨new', hnew1, hnew2⟩ := firsts_all (P := P) hr hnew hx (fun k hk => by rw [hl] at hk; cases hk; exact Nat.le_refl _)
  have eadd : Nat.add len n = len + n := rfl
  have emul : Nat.mul len ei.size = len * ei.size := rfl
  rw [eadd] at h
  split at h
  · -- room that is known
    rename_i hroom
    cases base0 with
    | none => cases h
    | some a =>
      simp only [] at h
      cases hst : st.stores (at_ a (Nat.mul len ei.size)) new with
      | none => rw [hst] at h; cases h
      | some s1 =>
        rw [hst] at h
        simp only [Option.some.injEq, Prod.mk.injEq] at h
        obtain ⟨rfl, rfl⟩ := h
        cases hs with
        | slice b o L _ _ o' cap' hb hsl =>
          have hcap := (hsl.2.1 hroom.2).1
          subst hcap
          have hoff := hsl.off_eq (by omega)
          subst hoff
          obtain ⟨w', a1, a2, a3⟩ := HR.stores (P := P) (b := b) (o := o + len * ei.size) hr hst hb hnew2
          refine ⟨.slice (some ⟨L.blk, L.off + o, none⟩) (len + n) cap', w', μ, ?_, .slice b o L _ _ _ _ hb ⟨hroom.1, fun g => ⟨rfl, .inl rfl⟩, fun g => by omega⟩, a2, a3⟩
          refine run_room hE ht hu hi hj hiu hju he ha0 ha1 hnrun (hnew1 w rfl) hroom.1 ?_
          simp only [add_none]
          rw [Nat.add_assoc]
          exact a1
  · rename_i hnroom
    cases hf : st.firsts ei.size len (.slice base0 len cap) with
    | none => rw [hf] at h; cases h
    | some old =>
      rw [hf] at h
      simp only [] at h
      obtain ⟨old', hold1, hold2⟩ := firsts_all (P := P) hr hf hs (fun k hk => by simp only [lenA, Option.some.injEq] at hk; omega)
      have holen : old.length = len * ei.size := by
        cases base0 with
        | none =>
          cases hs with
          | snil =>
            simp only [St.firsts, Option.some.injEq] at hf
            subst hf; simp
        | some a => exact firsts_slice_length hf
      -- laid anew
      have grow : ∀ (base' : Option Addr) (cap' : Nat), s' = .slice base' len cap' → cap' < len + n → ∃ newCap, len + n ≤ newCap ∧ (Builtin.append_ ts ty args').run P w = .ok (.slice (some ⟨w.heap.size, 0, none⟩) (len + n) newCap)
          ((w.drew).alloc (.cells (old' ++ new' ++ Builtin.zeroCells ei.zero.cells (newCap - (len + n))) e)) := by
        intro base' cap' es hlt
        subst es
        exact run_grow hE ht hu hi hj hiu hju he ha0 ha1 hnrun hb1 hb2 hold1 hnew1 hlt
      by_cases hcb : cap < big
      · rw [if_pos hcb] at h
        cases hp : st.row (old ++ new) ei.size e true with
        | none => rw [hp] at h; cases h
        | some q =>
          obtain ⟨b, s1⟩ := q
          rw [hp] at h
          simp only [Option.some.injEq, Prod.mk.injEq] at h
          obtain ⟨rfl, rfl⟩ := h
          have hlt : cap < len + n := by
            rcases Nat.lt_or_ge cap (len + n) with g | g
            · exact g
            · exact absurd ⟨g, hcb⟩ hnroom
          have hs' : ∃ base', s' = .slice base' len cap := by
            cases hs with
            | snil => exact ⟨_, rfl⟩
            | slice b o L _ _ o' cap' hb hsl => have := (hsl.2.1 hcb).1; subst this; exact ⟨_, rfl⟩
          obtain ⟨base', hs'⟩ := hs'
          obtain ⟨newCap, hle, hrun⟩ := grow base' cap hs' hlt
          obtain ⟨f1, f2, f3⟩ := grown_facts (μ := μ) hE he hold2 hnew2 holen hlen hle
          obtain ⟨μ', g1, g2, g3⟩ := newRow_sound (w1 := w.drew) (w2 := w.drew.alloc (.cells (old' ++ new' ++ Builtin.zeroCells ei.zero.cells (newCap - (len + n))) e)) hr hp
            (c' := old' ++ new' ++ Builtin.zeroCells ei.zero.cells (newCap - (len + n))) (el' := e) (fz := (0, 0)) (by rw [f1]; exact f2) (fun g => by cases g) f3 rfl rfl rfl rfl rfl rfl (noFreeze _)
          exact ⟨_, _, μ', hrun, VR.open0 g3 hle f1.symm, g1, g2⟩
      · rw [if_neg hcb] at h
        cases base0 with
        | none => cases h
        | some a =>
          simp only [] at h
          cases hs with
          | slice b o L _ _ o' cap' hb hsl =>
            simp only [] at h
            cases hg : growOpen st ⟨b, o, none⟩ e (Nat.add o (Nat.mul len ei.size)) ei.size (old ++ new) with
            | none => rw [hg] at h; cases h
            | some q =>
              obtain ⟨b2, s1⟩ := q
              rw [hg] at h
              simp only [Option.some.injEq, Prod.mk.injEq] at h
              obtain ⟨rfl, rfl⟩ := h
              have hoffn : Nat.add o (Nat.mul len ei.size) = o + old.length := by rw [holen]; rfl
              rcases Nat.lt_or_ge cap' (len + n) with hlt | hge
              · obtain ⟨newCap, hle, hrun⟩ := grow _ cap' rfl hlt
                obtain ⟨f1, f2, f3⟩ := grown_facts (μ := μ) hE he hold2 hnew2 holen hlen hle
                obtain ⟨μ', g1, g2, g3⟩ := HR.growNew (w' := w.drew.alloc (.cells (old' ++ new' ++ Builtin.zeroCells ei.zero.cells (newCap - (len + n))) e)) (arr := old' ++ new' ++ Builtin.zeroCells ei.zero.cells (newCap - (len + n))) hr hg hb rfl rfl rfl (by rw [f1]; exact f2) f3
                exact ⟨_, _, μ', hrun, VR.open0 g3 hle f1.symm, g1, g2⟩
              · have halt := hsl.2.2 (by omega)
                have halt' : o' = L.off + o ∧ o' + cap' * L.sz = L.off + L.room := by
                  rcases halt with g | g
                  · exact g
                  · omega
                obtain ⟨ho', hrm⟩ := halt'
                subst ho'
                have hsz : L.sz = ei.size := by
                  obtain ⟨n1, c1, cls1, st1, h1, c', e1, _⟩ := growOpen_spec hg
                  obtain ⟨ob, hob, hR⟩ := hr.obj b L _ hb e1
                  cases ob with
                  | cells a1 el' fz => exact hR.2.2.2.1.1
                  | _ => exact hR.elim
                have hfit : old.length + new.length ≤ cap' * L.sz := by
                  rw [hsz, holen, hlen, ← Nat.add_mul]; exact Nat.mul_le_mul_right _ hge
                have hcells : ∀ (i : Nat) (v : Value), old[i]? = some v → ∃ v', w.cell? ⟨L.blk, L.off + o + i, none⟩ = some v' ∧ VR μ v v' := by
                  simp only [St.firsts] at hf
                  obtain ⟨l', q1, q2, q3⟩ := St.loads_sound hr hb _ _ _ hf
                  intro i v hi
                  obtain ⟨v', z1, z2⟩ := q3.get hi
                  exact ⟨v', by have := q2 i v' z1; simpa using this, z2⟩
                obtain ⟨w', μ', k1, k2, k3, k4⟩ := HR.growIn (P := P) (cap' := cap') hr hg hb hoffn hrm hfit hcells hnew2
                refine ⟨.slice (some ⟨L.blk, L.off + o, none⟩) (len + n) cap', w', μ', ?_, ?_, k2, k3⟩
                · refine run_room hE ht hu hi hj hiu hju he ha0 ha1 hnrun (hnew1 w rfl) hge ?_
                  simp only [add_none]
                  rw [Nat.add_assoc]
                  exact k1
                · exact VR.slice b2 0 ⟨L.blk, L.off + o, cap' * L.sz, L.sz⟩ _ _ _ _ k4 ⟨hge, fun g => by unfold opn big at g; omega, fun _ => .inl ⟨rfl, rfl⟩⟩

theorem append_sound (hE : EnvOK P E) (hr : HR μ st w.heap base) {ts : Array TypeId} {ty : TypeId} {args : List Value} {args' : Array Value} {v : Value} {st' : St} (h : appendA E st ts args = some (v, st')) (ha : VRL μ args args'.toList) :
    Snd P μ st w base (Builtin.append_ ts ty args') v st' := by
  unfold appendA at h
  split at h
  · rename_i t u trest base0 len cap x xrest hts
    cases hi : E.ti.get t with
    | none => rw [hi] at h; cases h
    | some i =>
      cases hj : E.ti.get u with
      | none => rw [hi, hj] at h; cases h
      | some j =>
        rw [hi, hj] at h
        simp only [] at h
        have hju : ∀ k, j.und ≠ .int k := by
          intro k hk
          rw [hk] at h; cases h
        have h : (match i.und with
          | .slice e => match E.ti.get e, lenA x with
            | some ei, some n =>
              cond (Nat.beq ei.size 0) none (
              match st.firsts ei.size n x with
              | none => none
              | some new => cond (Nat.beq n 0) (some (.slice base0 len cap, st)) (cond (Nat.beq new.length (Nat.mul n ei.size)) (appendTo st e ei base0 len cap n new) none))
            | _, _ => none
          | _ => none : Option (Value × St)) = some (v, st') := by
          cases hju2 : j.und <;> rw [hju2] at h <;> first | exact h | (cases h; done)
        cases hu : i.und with
        | slice e =>
          rw [hu] at h
          simp only [] at h
          cases he : E.ti.get e with
          | none => rw [he] at h; cases h
          | some ei =>
            cases hl : lenA x with
            | none => rw [he, hl] at h; cases h
            | some n =>
              rw [he, hl] at h
              simp only [] at h
              cases hz : Nat.beq ei.size 0 with
              | true => rw [hz] at h; cases h
              | false =>
                rw [hz] at h
                simp only [cond_false] at h
                cases hf : st.firsts ei.size n x with
                | none => rw [hf] at h; cases h
                | some new =>
                  rw [hf] at h
                  simp only [] at h
                  have ht0 : ts[0]? = some t := by rw [← Array.getElem?_toList, hts]; rfl
                  have ht1 : ts[1]? = some u := by rw [← Array.getElem?_toList, hts]; rfl
                  generalize hargs : args'.toList = la at ha
                  cases ha with
                  | cons hd ht =>
                    rename_i d' r'
                    cases ht with
                    | cons hx0 hxr =>
                      rename_i x0' r2'
                      have ha0 : args'[0]? = some d' := by rw [← Array.getElem?_toList, hargs]; rfl
                      have ha1 : args'[1]? = some x0' := by rw [← Array.getElem?_toList, hargs]; rfl
                      cases hn : Nat.beq n 0 with
                      | true =>
                        rw [hn] at h
                        simp only [cond_true, Option.some.injEq, Prod.mk.injEq] at h
                        obtain ⟨rfl, rfl⟩ := h
                        have hn0 : n = 0 := Nat.eq_of_beq_eq_true hn
                        subst hn0
                        obtain ⟨new', hnew1, hnew2⟩ := firsts_all (P := P) hr hf hx0 (fun k hk => Nat.zero_le _)
                        have hnil := firsts_zero hf
                        subst hnil
                        have hnew3 : new'.toList = [] := by generalize new'.toList = q at hnew2; cases hnew2; rfl
                        have hlen0 := lenOf_sound (P := P) (w := w) hl hx0
                        have hd' : ∃ base' cap', d' = .slice base' len cap' ∧ len ≤ cap' := by
                          cases hd with
                          | snil => exact ⟨_, _, rfl, Nat.le_refl _⟩
                          | slice b o L _ _ o' cap' hb hsl => exact ⟨_, _, rfl, hsl.1⟩
                        obtain ⟨base', cap', rfl, hle⟩ := hd'
                        refine ⟨.slice base' len cap', w, μ, ?_, hd, hr, Ex.refl _ _ _ _⟩
                        refine run_room hE ht0 ht1 hi hj hu hju he ha0 ha1 hlen0 (hnew1 w rfl) hle ?_
                        rw [hnew3]
                        cases base' <;> rfl
                      | false =>
                        rw [hn] at h
                        simp only [cond_false] at h
                        cases hnl : Nat.beq new.length (Nat.mul n ei.size) with
                        | false => rw [hnl] at h; cases h
                        | true =>
                          rw [hnl] at h
                          simp only [cond_true] at h
                          exact appendTo_sound hE hr ht0 ht1 hi hj hu hju he ha0 ha1 hd hx0 hl hf (Nat.eq_of_beq_eq_true hnl) (fun e => by rw [e] at hn; cases hn) h
        | _ => rw [hu] at h; cases h
  · cases h

end
end Go.Det
