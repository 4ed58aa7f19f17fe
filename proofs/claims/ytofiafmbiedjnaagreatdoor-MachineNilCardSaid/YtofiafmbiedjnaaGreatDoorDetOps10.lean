/- Objects that turn: clear, maps, iterators. -/
import Derived.Test.YtofiafmbiedjnaaGreatDoorDetOps9
set_option autoImplicit false
namespace Go.Det

section
variable {P : Program} {E : Env} {μ : Ren} {st : St} {w : World} {base : Nat}

theorem run_setObj_any {r : Nat} {o : Obj} (o' : Obj) (h : w.heap[r]? = some o) (hc : ∀ c e f, o ≠ .cells c e f) : (setObj r o').run P w = .ok () (w.putObj r o') := by
  unfold setObj World.putObj
  cases o <;> first | exact absurd rfl (hc _ _ _) | simp [Sem.run, h]

theorem run_getObj_any {r : Nat} {o : Obj} (h : w.heap[r]? = some o) (hc : ∀ c e f, o ≠ .cells c e f) : (getObj r).run P w = .ok o w := by
  unfold getObj
  cases o <;> first | exact absurd rfl (hc _ _ _) | simp [Sem.run, h]

/-- An object that is no row of cells lies alone. -/
theorem HR.lone {h : Array Obj} (hr : HR μ st h base) {b : Nat} {L : Loc} {o : AObj} (hb : μ b = some L) (ho : st.heap.get b = some o) (hl : isLive o = true) (hc : clsOf o = none) :
    ∀ c M q, μ c = some M → st.heap.get c = some q → isLive q = true → c ≠ b → M.blk ≠ L.blk := by
  intro c M q hM hq lq hne hblk
  obtain ⟨k, _, h2⟩ := hr.sep c b M L q o hM hb hq ho lq hl hne hblk
  rw [hc] at h2; cases h2

theorem HR.setObj (hr : HR μ st w.heap base) {b : Nat} {L : Loc} {o p : AObj} {t' : Tr AObj} {o' : Obj} (hb : μ b = some L) (ho : st.heap.get b = some o) (hl : isLive o = true) (hc : clsOf o = none)
    (hset : st.heap.set b p = some t') (hp : clsOf p = none) (hobj : ObjR μ p L o') :
    HR μ { st with heap := t' } (w.putObj L.blk o').heap base ∧ Ex μ st w μ { st with heap := t' } (w.putObj L.blk o') base := by
  refine ⟨hr.turn hb ho hset (.inr hp) (hr.lone hb ho hl hc) hobj, ⟨Sub.refl _, fun g hg hm => ⟨hm, ?_⟩, Nat.le_refl _, fun B hB => ?_, by simp, rfl, rfl⟩⟩
  · have hgb : g ≠ b := fun e => by rw [e, hb] at hm; cases hm
    exact Tr.get_set_ne hset hgb
  · have := (hr.inn b L hb).1
    exact World.putObj_heap_other (by omega)

/-- The object is another one of the same kind: the abstract one is as it was. -/
theorem HR.keepObj (hr : HR μ st w.heap base) {b : Nat} {L : Loc} {o : AObj} {o' : Obj} (hb : μ b = some L) (ho : st.heap.get b = some o) (hl : isLive o = true) (hc : clsOf o = none)
    (hobj : ObjR μ o L o') : HR μ st (w.putObj L.blk o').heap base ∧ Ex μ st w μ st (w.putObj L.blk o') base := by
  have hsz := (hr.inn b L hb).2
  have hlone := hr.lone hb ho hl hc
  refine ⟨⟨hr.fresh, ?_, hr.heapIn, ?_, hr.sep, hr.cls, hr.clsIn, by simpa using hr.le⟩, ⟨Sub.refl _, fun g hg hm => ⟨hm, rfl⟩, Nat.le_refl _, fun B hB => ?_, by simp, rfl, rfl⟩⟩
  · intro c M hM; simpa using hr.inn c M hM
  · intro c M q hM hq
    by_cases e : c = b
    · subst e; rw [hb] at hM; cases hM
      rw [ho] at hq; cases hq
      exact ⟨o', World.putObj_heap_same hsz, hobj⟩
    · obtain ⟨q', a, r⟩ := hr.obj c M q hM hq
      by_cases el : M.blk = L.blk
      · cases lq : isLive q with
        | true => exact absurd el (hlone c M q hM hq lq e)
        | false =>
          have : q = .dead := by cases q <;> first | rfl | cases lq
          subst this
          exact ⟨o', by rw [el]; exact World.putObj_heap_same hsz, trivial⟩
      · exact ⟨q', by rw [World.putObj_heap_other el]; exact a, r⟩
  · have := (hr.inn b L hb).1
    exact World.putObj_heap_other (by omega)

theorem VR.unit : VR μ (.tuple #[]) (.tuple #[]) := .tuple _ _ .nil

theorem clear_sound (hE : EnvOK P E) (hr : HR μ st w.heap base) {ts : Array TypeId} {ty : TypeId} {args : List Value} {args' : Array Value} {v : Value} {st' : St} (h : clearA E st ts args = some (v, st')) (ha : VRL μ args args'.toList) :
    Snd P μ st w base (Builtin.clear_ ts ty args') v st' := by
  unfold clearA at h
  split at h
  · rename_i t trest x xrest hts
    have ht0 : ts[0]? = some t := by rw [← Array.getElem?_toList, hts]; rfl
    generalize hargs : args'.toList = la at ha
    cases ha with
    | cons hx hxr =>
      rename_i x' r'
      have ha0 : args'[0]? = some x' := by rw [← Array.getElem?_toList, hargs]; rfl
      cases hi : E.ti.get t with
      | none => rw [hi] at h; cases h
      | some i =>
        rw [hi] at h
        simp only [] at h
        have hund := hE.run_und hi w
        cases hx with
        | mnil =>
          simp only [Option.some.injEq, Prod.mk.injEq] at h
          obtain ⟨rfl, rfl⟩ := h
          exact ⟨_, w, μ, by simp [Builtin.clear_, ht0, ha0, hund], VR.unit, hr, Ex.refl _ _ _ _⟩
        | snil =>
          simp only [Option.some.injEq, Prod.mk.injEq] at h
          obtain ⟨rfl, rfl⟩ := h
          exact ⟨_, w, μ, by simp [Builtin.clear_, ht0, ha0, hund], VR.unit, hr, Ex.refl _ _ _ _⟩
        | slice b o L len cap o' cap' hb hsl =>
          simp only [] at h
          cases hn : Nat.beq len 0 with
          | true =>
            rw [hn] at h
            simp only [cond_true, Option.some.injEq, Prod.mk.injEq] at h
            obtain ⟨rfl, rfl⟩ := h
            have e0 := Nat.eq_of_beq_eq_true hn
            subst e0
            exact ⟨_, w, μ, by simp [Builtin.clear_, ht0, ha0, hund], VR.unit, hr, Ex.refl _ _ _ _⟩
          | false =>
            rw [hn] at h
            simp only [cond_false] at h
            cases hu : i.und with
            | slice e =>
              rw [hu] at h hund
              simp only [] at h
              cases he : E.ti.get e with
              | none => rw [he] at h; cases h
              | some ei =>
                rw [he] at h
                simp only [] at h
                cases hst : st.stores ⟨b, o, none⟩ (zeros (cellsOf ei.zero) len) with
                | none => rw [hst] at h; cases h
                | some s1 =>
                  rw [hst] at h
                  simp only [Option.some.injEq, Prod.mk.injEq] at h
                  obtain ⟨rfl, rfl⟩ := h
                  have hne : len ≠ 0 := fun e => by rw [e] at hn; cases hn
                  have hoff := hsl.off_eq (by have := hsl.1; omega)
                  subst hoff
                  have hv : VRL μ (zeros (cellsOf ei.zero) len) (Builtin.zeroCells ei.zero.cells len).toList :=
                    VRL.of_get (by simp [zeros_length, zeroCells_size, cellsOf]) (fun j u hu => by
                      obtain ⟨u', a, b⟩ := zeros_rel μ hE he len j u hu
                      exact ⟨u', by rw [Array.getElem?_toList]; exact a, b⟩)
                  obtain ⟨w', a1, a2, a3⟩ := HR.stores (P := P) hr hst hb hv
                  refine ⟨.tuple #[], w', μ, ?_, VR.unit, a2, a3⟩
                  obtain ⟨m, rfl⟩ : ∃ m, len = m + 1 := ⟨len - 1, by omega⟩
                  simp [Builtin.clear_, ht0, ha0, hund, hE.run_zero he, a1]
            | _ => rw [hu] at h; cases h
        | _ => cases h
  · cases h

/-! ### Entries -/
theorem EntriesR.get {l l' : List MapEntry} (h : EntriesR μ l l') {i : Nat} {e : MapEntry} (hi : l[i]? = some e) : ∃ e', l'[i]? = some e' ∧ EntryR μ e e' := by
  induction h generalizing i with
  | nil => simp at hi
  | cons a t ih =>
    cases i with
    | zero => simp at hi; subst hi; exact ⟨_, by simp, a⟩
    | succ i => simp at hi; obtain ⟨e', x, y⟩ := ih hi; exact ⟨e', by simpa using x, y⟩

theorem EntriesR.modify {v v' k' : Value} {l l' : List MapEntry} (h : EntriesR μ l l') {i : Nat} {e : MapEntry} (hi : l[i]? = some e) (hk : VR μ e.key k') (hv : VR μ v v') :
    EntriesR μ (putVal v l i) (l'.modify i fun e => { e with key := k', val := v' }) := by
  induction h generalizing i with
  | nil => simp at hi
  | cons a t ih =>
    cases i with
    | zero => simp at hi; subst hi; simp only [putVal, List.modify_zero_cons]; exact .cons ⟨hk, hv, a.born⟩ t
    | succ i => simp at hi; simpa [putVal] using EntriesR.cons a (ih hi)

theorem EntriesR.modifyVal {v v' : Value} {l l' : List MapEntry} (h : EntriesR μ l l') (hv : VR μ v v') (i : Nat) :
    EntriesR μ (putVal v l i) (l'.modify i fun e => { e with val := v' }) := by
  induction h generalizing i with
  | nil => simpa [putVal] using EntriesR.nil
  | cons a t ih =>
    cases i with
    | zero => simp only [putVal, List.modify_zero_cons]; exact .cons ⟨a.key, hv, a.born⟩ t
    | succ i => simpa [putVal] using EntriesR.cons a (ih i)

theorem EntriesR.modifyKey {k' : Value} {l l' : List MapEntry} (h : EntriesR μ l l') {i : Nat} {e : MapEntry} (hi : l[i]? = some e) (hk : VR μ e.key k') :
    EntriesR μ l (l'.modify i fun e => { e with key := k' }) := by
  induction h generalizing i with
  | nil => simp at hi
  | cons a t ih =>
    cases i with
    | zero => simp at hi; subst hi; simp only [List.modify_zero_cons]; exact .cons ⟨hk, a.val, a.born⟩ t
    | succ i => simp at hi; simpa using EntriesR.cons a (ih hi)

theorem EntriesR.append {a a' b b' : List MapEntry} (h : EntriesR μ a a') (g : EntriesR μ b b') : EntriesR μ (a ++ b) (a' ++ b') := by
  induction h with
  | nil => exact g
  | cons x t ih => exact .cons x ih

theorem EntriesR.eraseIdx {l l' : List MapEntry} (h : EntriesR μ l l') (i : Nat) : EntriesR μ (l.eraseIdx i) (l'.eraseIdx i) := by
  induction h generalizing i with
  | nil => simpa using EntriesR.nil
  | cons a t ih =>
    cases i with
    | zero => simpa using t
    | succ i => simpa using EntriesR.cons a (ih i)

theorem EntriesR.filter {p q : MapEntry → Bool} (hpq : ∀ e e', e'.born = e.born → q e' = p e) {l l' : List MapEntry} (h : EntriesR μ l l') : EntriesR μ (l.filter p) (l'.filter q) := by
  induction h with
  | nil => simpa using EntriesR.nil
  | cons a t ih =>
    rename_i e e' l l'
    have := hpq e e' a.born
    cases hp : p e with
    | true => rw [List.filter_cons_of_pos hp, List.filter_cons_of_pos (by rw [this, hp])]; exact .cons a ih
    | false => rw [List.filter_cons_of_neg (by rw [hp]; simp), List.filter_cons_of_neg (by rw [this, hp]; simp)]; exact ih

theorem EntriesR.all {p : MapEntry → Bool} (hp : ∀ e e', e'.born = e.born → p e' = p e) {l l' : List MapEntry} (h : EntriesR μ l l') : l'.all p = l.all p := by
  induction h with
  | nil => rfl
  | cons a t ih => simp only [List.all_cons, ih, hp _ _ a.born]

theorem run_keyThatStays (old new : Value) (w : World) : ∃ k w', (Instr.keyThatStays old new).run P w = .ok k w' ∧ (k = old ∨ k = new) ∧ w'.heap = w.heap ∧ w'.os = w.os ∧ w'.output = w.output := by
  unfold Instr.keyThatStays
  split
  · exact ⟨new, w, rfl, .inr rfl, rfl, rfl, rfl⟩
  · have hf : (Question.extern "map.whichKeyStays" 2).forced = false := rfl
    simp only [Sem.run_bind, run_choose_drew, hf, Bool.false_eq_true, if_false, Result.andThen_ok, Sem.run_pure]
    split
    · exact ⟨new, w.drew, rfl, .inr rfl, rfl, rfl, rfl⟩
    · exact ⟨old, w.drew, rfl, .inl rfl, rfl, rfl, rfl⟩

theorem map_notCells (es : Array MapEntry) (c : Nat) : ∀ a e f, Obj.map es c ≠ .cells a e f := by intro a e f h; cases h

/-- m[k] = v -/
theorem mapSet_sound (hE : EnvOK P E) (hr : HR μ st w.heap base) {t : TypeId} {m m' k k' v v' : Value} {st' : St} (h : mapSetA E st t m k v = some st') (hm : VR μ m m') (hk : VR μ k k') (hv : VR μ v v') :
    SndU P μ st w base (Instr.mapUpdate t m' k' v') st' := by
  unfold mapSetA at h
  cases hi : E.ti.get t with
  | none => rw [hi] at h; cases h
  | some i =>
    rw [hi] at h
    simp only [] at h
    have hund := hE.run_und hi w
    cases hu : i.und with
    | map kt et =>
      rw [hu] at h hund
      cases hm with
      | map b L hb =>
        simp only [] at h
        cases hko : keyOk E 10000 kt k with
        | false => rw [hko] at h; cases h
        | true =>
          rw [hko] at h
          simp only [cond_true] at h
          obtain ⟨ti, hti⟩ := keyTy hE hko
          have hck := checkKey_sound (w := w) hE false 10000 kt k k' hko hk
          cases hg : st.heap.get b with
          | none => rw [hg] at h; cases h
          | some ob =>
            rw [hg] at h
            cases ob with
            | map es clock =>
              simp only [] at h
              obtain ⟨es', hes0, hes, hget⟩ := getMap (P := P) hr hb hg
              cases hf : findA E kt k es 0 with
              | none => rw [hf] at h; cases h
              | some r =>
                rw [hf] at h
                obtain ⟨r', e1, e2⟩ := findKey_sound (w := w) hE hti hk hf hes
                cases r with
                | none =>
                  have : r' = none := e2
                  subst this
                  simp only [] at h
                  cases hs : st.heap.set b (.map (es ++ [{ key := k, val := v, born := clock }]) (Nat.add clock 1)) with
                  | none => rw [hs] at h; cases h
                  | some hp =>
                    rw [hs] at h
                    simp only [Option.some.injEq] at h
                    subst h
                    obtain ⟨g1, g2⟩ := HR.setObj hr (o' := .map (es'.push { key := k', val := v', born := clock }) (clock + 1)) hb hg rfl rfl hs rfl
                      ⟨_, rfl, by rw [Array.toList_push]; exact hes.append (.cons ⟨hk, hv, rfl⟩ .nil)⟩
                    refine ⟨_, μ, ?_, g1, g2⟩
                    simp only [Instr.mapUpdate, Sem.run_bind, hund, Result.andThen_ok, hget, hck, e1]
                    exact run_setObj_any _ hes0 (map_notCells _ _)
                | some q =>
                  obtain ⟨n, u⟩ := q
                  obtain ⟨u', rfl, hu'⟩ := e2
                  simp only [] at h
                  cases hn : es[n]? with
                  | none => rw [hn] at h; cases h
                  | some e =>
                    rw [hn] at h
                    simp only [] at h
                    cases hq : vEq 100 k e.key with
                    | false => rw [hq] at h; cases h
                    | true =>
                      rw [hq] at h
                      simp only [cond_true] at h
                      have hke := vEq_eq _ hq
                      cases hs : st.heap.set b (.map (putVal v es n) clock) with
                      | none => rw [hs] at h; cases h
                      | some hp =>
                        rw [hs] at h
                        simp only [Option.some.injEq] at h
                        subst h
                        obtain ⟨e', hn', hee⟩ := hes.get hn
                        have hn2 : es'[n]? = some e' := by rw [← Array.getElem?_toList]; exact hn'
                        obtain ⟨k2, w1, hks, hk2, hw1, ho1, hp1⟩ := run_keyThatStays (P := P) e'.key k' w
                        have hk2' : VR μ e.key k2 := by
                          rcases hk2 with rfl | rfl
                          · exact hee.key
                          · rw [← hke]; exact hk
                        have hr1 : HR μ st w1.heap base := by rw [hw1]; exact hr
                        obtain ⟨g1, g2⟩ := HR.setObj hr1 (o' := .map (es'.modify n fun e => { e with key := k2, val := v' }) clock) hb hg rfl rfl hs rfl
                          ⟨_, rfl, by rw [Array.toList_modify]; exact hes.modify hn hk2' hv⟩
                        refine ⟨_, μ, ?_, g1, (Ex.world hw1 ho1 hp1).trans g2⟩
                        simp only [Instr.mapUpdate, Sem.run_bind, hund, Result.andThen_ok, hget, hck, e1, hn2, Option.map_some, Option.getD_some, hks]
                        exact run_setObj_any _ (by rw [hw1]; exact hes0) (map_notCells _ _)
            | _ => cases h
      | _ => cases h
    | _ => rw [hu] at h; cases h

theorem mapEntry_sound (hE : EnvOK P E) (hr : HR μ st w.heap base) {t : TypeId} {m m' k k' x : Value} {st' : St} (h : mapEntryA E st t m k = some (x, st')) (hm : VR μ m m') (hk : VR μ k k') :
    Snd P μ st w base (Instr.mapEntry t m' k') x st' := by
  unfold mapEntryA at h
  cases hi : E.ti.get t with
  | none => rw [hi] at h; cases h
  | some i =>
    rw [hi] at h
    simp only [] at h
    have hund := hE.run_und hi w
    cases hu : i.und with
    | map kt et =>
      rw [hu] at h hund
      cases hm with
      | map b L hb =>
        simp only [] at h
        cases hko : keyOk E 10000 kt k with
        | false => rw [hko] at h; cases h
        | true =>
          rw [hko] at h
          simp only [cond_true] at h
          obtain ⟨ti, hti⟩ := keyTy hE hko
          have hck := checkKey_sound (w := w) hE false 10000 kt k k' hko hk
          cases hg : st.heap.get b with
          | none => rw [hg] at h; cases h
          | some ob =>
            cases he : E.ti.get et with
            | none => rw [hg, he] at h; cases ob <;> cases h
            | some ei =>
            rw [hg, he] at h
            cases ob with
            | map es clock =>
              simp only [] at h
              obtain ⟨es', hes0, hes, hget⟩ := getMap (P := P) hr hb hg
              cases hf : findA E kt k es 0 with
              | none => rw [hf] at h; cases h
              | some r =>
                rw [hf] at h
                obtain ⟨r', e1, e2⟩ := findKey_sound (w := w) hE hti hk hf hes
                cases r with
                | none =>
                  have : r' = none := e2
                  subst this
                  simp only [] at h
                  cases hs : st.heap.set b (.map (es ++ [{ key := k, val := ei.zero, born := clock }]) (Nat.add clock 1)) with
                  | none => rw [hs] at h; cases h
                  | some hp =>
                    rw [hs] at h
                    simp only [Option.some.injEq, Prod.mk.injEq] at h
                    obtain ⟨rfl, rfl⟩ := h
                    have hz := plainV_VR μ (hE.zero et ei he).1
                    obtain ⟨g1, g2⟩ := HR.setObj hr (o' := .map (es'.push { key := k', val := ei.zero, born := clock }) (clock + 1)) hb hg rfl rfl hs rfl
                      ⟨_, rfl, by rw [Array.toList_push]; exact hes.append (.cons ⟨hk, hz, rfl⟩ .nil)⟩
                    refine ⟨.tuple #[ei.zero, goInt clock], _, μ, ?_, .tuple _ _ (.cons hz (.cons (.int _ _) .nil)), g1, g2⟩
                    simp only [Instr.mapEntry, Sem.run_bind, hund, Result.andThen_ok, hget, hck, e1, hE.run_zero he]
                    rw [run_setObj_any _ hes0 (map_notCells _ _)]
                    rfl
                | some q =>
                  obtain ⟨n, u⟩ := q
                  obtain ⟨u', rfl, hu'⟩ := e2
                  simp only [] at h
                  cases hn : es[n]? with
                  | none => rw [hn] at h; cases h
                  | some e =>
                    rw [hn] at h
                    simp only [] at h
                    cases hq : vEq 100 k e.key with
                    | false => rw [hq] at h; cases h
                    | true =>
                      rw [hq] at h
                      simp only [cond_true, Option.some.injEq, Prod.mk.injEq] at h
                      obtain ⟨rfl, rfl⟩ := h
                      have hke := vEq_eq _ hq
                      obtain ⟨e', hn', hee⟩ := hes.get hn
                      have hn2 : es'[n]? = some e' := by rw [← Array.getElem?_toList]; exact hn'
                      obtain ⟨k2, w1, hks, hk2, hw1, ho1, hp1⟩ := run_keyThatStays (P := P) e'.key k' w
                      have hk2' : VR μ e.key k2 := by
                        rcases hk2 with rfl | rfl
                        · exact hee.key
                        · rw [← hke]; exact hk
                      have hr1 : HR μ st w1.heap base := by rw [hw1]; exact hr
                      obtain ⟨g1, g2⟩ := HR.keepObj hr1 (o' := .map (es'.modify n fun e => { e with key := k2 }) clock) hb hg rfl rfl
                        ⟨_, rfl, by rw [Array.toList_modify]; exact hes.modifyKey hn hk2'⟩
                      refine ⟨.tuple #[u', goInt e'.born], _, μ, ?_, .tuple _ _ (.cons hu' (.cons ?_ .nil)), g1, (Ex.world hw1 ho1 hp1).trans g2⟩
                      · simp only [Instr.mapEntry, Sem.run_bind, hund, Result.andThen_ok, hget, hck, e1, hn2, Option.map_some, Option.getD_some, hks]
                        rw [run_setObj_any _ (by rw [hw1]; exact hes0) (map_notCells _ _)]
                        rfl
                      · rw [goInt, hee.born]; exact .int _ _
            | _ => cases h
      | _ => cases h
    | _ => rw [hu] at h; cases h

theorem findBorn_sound {n : Int} : ∀ (es es' : List MapEntry) (i j : Nat), findBorn n es i = some j → EntriesR μ es es' → ∃ d, j = i + d ∧ es'.findIdx? (fun e => (e.born : Int) == n) = some d
  | [], _, i, j, h, _ => by cases h
  | e :: es, _, i, j, h, hr => by
    cases hr with
    | cons h1 h2 =>
      rename_i e' es'
      simp only [findBorn] at h
      rw [List.findIdx?_cons]
      have hb : ((e'.born : Int) == n) = ((e.born : Int) == n) := by rw [h1.born]
      rw [hb]
      cases hc : ((e.born : Int) == n) with
      | true =>
        rw [hc] at h
        simp only [cond_true, Option.some.injEq] at h
        exact ⟨0, by omega, by simp⟩
      | false =>
        rw [hc] at h
        simp only [cond_false] at h
        obtain ⟨d, a, b⟩ := findBorn_sound es es' (Nat.add i 1) j h h2
        have e1 : Nat.add i 1 = i + 1 := rfl
        exact ⟨d + 1, by omega, by simp [b]⟩

theorem entryStore_sound (hr : HR μ st w.heap base) {t : TypeId} {m m' s s' v v' : Value} {st' : St} (h : entryStoreA st m s v = some st') (hm : VR μ m m') (hs : VR μ s s') (hv : VR μ v v') :
    SndU P μ st w base (Instr.entryStore t m' s' v') st' := by
  unfold entryStoreA at h
  cases hm with
  | map b L hb =>
    cases hs with
    | int k n =>
      simp only [] at h
      cases hg : st.heap.get b with
      | none => rw [hg] at h; cases h
      | some ob =>
        rw [hg] at h
        cases ob with
        | map es clock =>
          simp only [] at h
          obtain ⟨es', hes0, hes, hget⟩ := getMap (P := P) hr hb hg
          cases hf : findBorn n es 0 with
          | none => rw [hf] at h; cases h
          | some i =>
            rw [hf] at h
            simp only [] at h
            cases hset : st.heap.set b (.map (putVal v es i) clock) with
            | none => rw [hset] at h; cases h
            | some hp =>
              rw [hset] at h
              simp only [Option.some.injEq] at h
              subst h
              obtain ⟨d, a, c⟩ := findBorn_sound es es'.toList 0 i hf hes
              have hd : i = d := by omega
              subst hd
              have c' : es'.findIdx? (fun e => (e.born : Int) == n) = some i := by rcases es' with ⟨le⟩; simpa using c
              obtain ⟨g1, g2⟩ := HR.setObj hr (o' := .map (es'.modify i fun e => { e with val := v' }) clock) hb hg rfl rfl hset rfl
                ⟨_, rfl, by rw [Array.toList_modify]; exact hes.modifyVal hv i⟩
              refine ⟨_, μ, ?_, g1, g2⟩
              simp only [Instr.entryStore, Sem.run_bind, Result.andThen_ok, hget, asInt, asIntOf, Sem.run_pure, c']
              exact run_setObj_any _ hes0 (map_notCells _ _)
        | _ => cases h
    | _ => cases h
  | _ => cases h

theorem delete_sound (hE : EnvOK P E) (hr : HR μ st w.heap base) {ts : Array TypeId} {ty : TypeId} {args : List Value} {args' : Array Value} {v : Value} {st' : St} (h : deleteA E st ts args = some (v, st')) (ha : VRL μ args args'.toList) :
    Snd P μ st w base (Builtin.delete_ ts ty args') v st' := by
  unfold deleteA at h
  split at h
  · rename_i t trest m k xrest hts
    have ht0 : ts[0]? = some t := by rw [← Array.getElem?_toList, hts]; rfl
    generalize hargs : args'.toList = la at ha
    cases ha with
    | cons hm ha2 =>
      rename_i m' r'
      cases ha2 with
      | cons hk hkr =>
        rename_i k' r2'
        have ha0 : args'[0]? = some m' := by rw [← Array.getElem?_toList, hargs]; rfl
        have ha1 : args'[1]? = some k' := by rw [← Array.getElem?_toList, hargs]; rfl
        cases hi : E.ti.get t with
        | none => rw [hi] at h; cases h
        | some i =>
          rw [hi] at h
          simp only [] at h
          have hund := hE.run_und hi w
          cases hu : i.und with
          | map kt et =>
            rw [hu] at h hund
            cases hm with
            | mnil =>
              simp only [] at h
              cases hko : keyOk E 10000 kt k with
              | false => rw [hko] at h; cases h
              | true =>
                rw [hko] at h
                simp only [cond_true, Option.some.injEq, Prod.mk.injEq] at h
                obtain ⟨rfl, rfl⟩ := h
                have hck := checkKey_sound (w := w) hE true 10000 kt k k' hko hk
                exact ⟨_, w, μ, by simp [Builtin.delete_, ht0, ha0, ha1, hund, hck], VR.unit, hr, Ex.refl _ _ _ _⟩
            | map b L hb =>
              simp only [] at h
              cases hko : keyOk E 10000 kt k with
              | false => rw [hko] at h; cases h
              | true =>
                rw [hko] at h
                simp only [cond_true] at h
                obtain ⟨ti, hti⟩ := keyTy hE hko
                cases hg : st.heap.get b with
                | none => rw [hg] at h; cases h
                | some ob =>
                  rw [hg] at h
                  cases ob with
                  | map es clock =>
                    simp only [] at h
                    obtain ⟨es', hes0, hes, hget⟩ := getMap (P := P) hr hb hg
                    have hck := checkKey_sound (w := w) hE es'.isEmpty 10000 kt k k' hko hk
                    cases hf : findA E kt k es 0 with
                    | none => rw [hf] at h; cases h
                    | some r =>
                      rw [hf] at h
                      obtain ⟨r', e1, e2⟩ := findKey_sound (w := w) hE hti hk hf hes
                      cases r with
                      | none =>
                        have : r' = none := e2
                        subst this
                        simp only [Option.some.injEq, Prod.mk.injEq] at h
                        obtain ⟨rfl, rfl⟩ := h
                        refine ⟨.tuple #[], w, μ, ?_, VR.unit, hr, Ex.refl _ _ _ _⟩
                        simp only [Builtin.delete_, ht0, ha0, ha1, Sem.run_bind, hund, Result.andThen_ok, hget, hck, e1]
                        rw [run_setObj_any _ hes0 (map_notCells _ _), putObj_self hes0]
                        rfl
                      | some q =>
                        obtain ⟨n, u⟩ := q
                        obtain ⟨u', rfl, hu'⟩ := e2
                        simp only [] at h
                        cases hs : st.heap.set b (.map (es.eraseIdx n) clock) with
                        | none => rw [hs] at h; cases h
                        | some hp =>
                          rw [hs] at h
                          simp only [Option.some.injEq, Prod.mk.injEq] at h
                          obtain ⟨rfl, rfl⟩ := h
                          have hel : (es'.eraseIdxIfInBounds n).toList = es'.toList.eraseIdx n := by
                            unfold Array.eraseIdxIfInBounds
                            split
                            · simp
                            · rw [List.eraseIdx_of_length_le]; simp; omega
                          obtain ⟨g1, g2⟩ := HR.setObj hr (o' := .map (es'.eraseIdxIfInBounds n) clock) hb hg rfl rfl hs rfl
                            ⟨_, rfl, by rw [hel]; exact hes.eraseIdx n⟩
                          refine ⟨.tuple #[], _, μ, ?_, VR.unit, g1, g2⟩
                          simp only [Builtin.delete_, ht0, ha0, ha1, Sem.run_bind, hund, Result.andThen_ok, hget, hck, e1]
                          rw [run_setObj_any _ hes0 (map_notCells _ _)]
                          rfl
                  | _ => cases h
            | _ => cases h
          | _ => rw [hu] at h; cases h
  · cases h

end
end Go.Det
