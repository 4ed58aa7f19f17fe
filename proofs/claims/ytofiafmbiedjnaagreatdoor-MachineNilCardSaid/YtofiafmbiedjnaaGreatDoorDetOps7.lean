/- Maps, iterators, lengths. -/
import Derived.Test.YtofiafmbiedjnaaGreatDoorDetOps6
set_option autoImplicit false
namespace Go.Det

theorem vEqL_eq {f : Value → Value → Bool} (hf : ∀ x y, f x y = true → x = y) : ∀ {l l' : List Value}, vEqL f l l' = true → l = l'
  | [], [], _ => rfl
  | x :: a, y :: b, h => by
    simp only [vEqL, Bool.and_eq_true] at h
    rw [hf x y h.1, vEqL_eq hf h.2]
  | [], _ :: _, h => by cases h
  | _ :: _, [], h => by cases h

theorem bytesEq_iff {a b : ByteArray} (h : bytesEq a b = true) : a = b := by
  unfold bytesEq at h
  have e : a.data.toList = b.data.toList := by simpa using h
  have e2 : a.data = b.data := Array.toList_inj.1 e
  cases a; cases b; simp at e2; rw [e2]

theorem vEq_eq : ∀ (n : Nat) {x y : Value}, vEq n x y = true → x = y := by
  intro n
  induction n with
  | zero =>
    intro x y h
    cases x <;> cases y <;> simp only [vEq, Bool.and_eq_true, decide_eq_true_eq, beq_iff_eq, Bool.false_eq_true] at h <;> first
      | (rw [h]; done)
      | (rw [h.1, h.2]; done)
      | (rw [bytesEq_iff h]; done)
      | (obtain ⟨⟨h1, h2⟩, h3⟩ := h; rw [h1, Nat.eq_of_beq_eq_true h2, Nat.eq_of_beq_eq_true h3]; done)
      | rfl
  | succ n ih =>
    intro x y h
    cases x <;> cases y <;> simp only [vEq, Bool.and_eq_true, decide_eq_true_eq, beq_iff_eq, Bool.false_eq_true] at h <;> first
      | (rw [h]; done)
      | (rw [h.1, h.2]; done)
      | (rw [bytesEq_iff h]; done)
      | (obtain ⟨⟨h1, h2⟩, h3⟩ := h
         first
          | (rw [h1, Nat.eq_of_beq_eq_true h2, Nat.eq_of_beq_eq_true h3]; done)
          | (rw [h1, Array.toList_inj.1 (vEqL_eq (fun _ _ => ih) h2), Array.toList_inj.1 (vEqL_eq (fun _ _ => ih) h3)]; done))
      | (rw [Array.toList_inj.1 (vEqL_eq (fun _ _ => ih) h)]; done)
      | rfl

section
variable {P : Program} {E : Env} {μ : Ren} {st : St} {w : World} {base : Nat}

/-! ### Keys -/
theorem checkKey_sound (hE : EnvOK P E) (em : Bool) : ∀ (d : Nat) (t : TypeId) (k k' : Value), keyOk E d t k = true → VR μ k k' → (Instr.checkKey em d t k').run P w = .ok () w := by
  intro d
  induction d with
  | zero => intro t k k' h; cases h
  | succ d ih =>
    intro t k k' h hk
    simp only [keyOk] at h
    cases hi : E.ti.get t with
    | none => rw [hi] at h; cases h
    | some i =>
      rw [hi] at h
      simp only [] at h
      have hund := hE.run_und hi w
      cases hu : i.und with
      | int kk => rw [hu] at h hund; cases hk <;> first | (cases h; done) | simp [Instr.checkKey, hund]
      | string => rw [hu] at h hund; cases hk <;> first | (cases h; done) | simp [Instr.checkKey, hund]
      | bool => rw [hu] at h hund; cases hk <;> first | (cases h; done) | simp [Instr.checkKey, hund]
      | struct fs =>
        rw [hu] at h hund
        cases hk with
        | agg a a' hl =>
          simp only [] at h
          simp only [Instr.checkKey, Sem.run_bind, hund, Result.andThen_ok]
          rw [← Array.forIn_toList]
          generalize fs.toList = l at h
          clear hund hu
          induction l with
          | nil => simp
          | cons f r ihl =>
            simp only [List.all_cons, Bool.and_eq_true] at h
            simp only [List.forIn_cons, Sem.run_bind]
            by_cases hn : f.name = "_"
            · simp only [hn, ne_eq, not_true_eq_false, if_false, Sem.run_pure, Result.andThen_ok]
              exact ihl h.2
            · have h1 := h.1
              simp only [hn, decide_false, Bool.false_or] at h1
              cases hp : partOf E f.type a.toList f.offset with
              | none => rw [hp] at h1; cases h1
              | some x =>
                rw [hp] at h1
                simp only [] at h1
                obtain ⟨x', e1, e2⟩ := part_sound (w := w) hE hp hl
                simp only [hn, ne_eq, not_false_eq_true, if_true, Sem.run_bind, e1, Result.andThen_ok, ih _ _ _ h1 e2, Sem.run_pure]
                exact ihl h.2
        | _ => cases h
      | _ => rw [hu] at h; cases k <;> cases h

def FoundR (μ : Ren) : Option (Nat × Value) → Option (Nat × Value) → Prop
  | none, r => r = none
  | some (i, v), r => ∃ v', r = some (i, v') ∧ VR μ v v'

theorem findAsking_sound (hE : EnvOK P E) {kt : TypeId} {k k' : Value} (hk : VR μ k k') : ∀ (es es' : List MapEntry) (i : Nat) (r : Option (Nat × Value)), findA E kt k es i = some r → EntriesR μ es es' →
    ∃ r', (Instr.findAsking kt k' es' i).run P w = .ok r' w ∧ FoundR μ r r'
  | [], _, i, r, h, he => by
    cases he
    simp only [findA, Option.some.injEq] at h
    subst h
    exact ⟨none, rfl, rfl⟩
  | e :: es, _, i, r, h, he => by
    cases he with
    | cons h1 h2 =>
      rename_i e' es'
      simp only [findA] at h
      cases hq : eqAt E 10000 kt k e.key with
      | none => rw [hq] at h; cases h
      | some b =>
        rw [hq] at h
        have hrun := equal_sound (w := w) hE hq hk h1.key
        simp only [Instr.findAsking, Sem.run_bind, hrun, Result.andThen_ok]
        cases b with
        | true =>
          simp only [Option.some.injEq] at h
          subst h
          exact ⟨some (i, e'.val), rfl, e'.val, rfl, h1.val⟩
        | false =>
          simp only [] at h
          obtain ⟨r', a, c⟩ := findAsking_sound hE hk es es' (i + 1) r h h2
          exact ⟨r', by simpa using a, c⟩

theorem sameNow_eqAt {kt : TypeId} {i : TI} (hi : E.ti.get kt = some i) {k k' x x' : Value} {b c : Bool} (hk : VR μ k k') (hx : VR μ x x') (h : Instr.sameNow i.und k' x' = some b) (g : eqAt E 10000 kt k x = some c) : b = c := by
  have g' : ∃ N, eqAt E (N + 1) kt k x = some c := ⟨9999, g⟩
  clear g
  obtain ⟨N, g'⟩ := g'
  simp only [eqAt, hi] at g'
  cases hu : i.und <;> rw [hu] at h g' <;> cases hk <;> cases hx <;> simp only [Instr.sameNow, Option.some.injEq] at h g' <;> first
    | (cases h; done)
    | (cases g'; done)
    | (rw [← h, ← g']; done)
    | (rw [← h, ← g', bytesEq_eq]; rw [beq_toListBytes]; done)
    | (rename_i k1 a k2 d
       by_cases e : k1 = k2
       · simp only [e, if_true, Option.some.injEq] at h
         simp only [e, decide_true, cond_true, Option.some.injEq] at g'
         rw [← h, ← g']
       · simp only [e, if_false] at h
         cases h)

theorem findNow_sound {kt : TypeId} {ti : TI} (hi : E.ti.get kt = some ti) {k k' : Value} (hk : VR μ k k') : ∀ (es es' : List MapEntry) (i : Nat) (r r' : Option (Nat × Value)), findA E kt k es i = some r → EntriesR μ es es' →
    Instr.findNow ti.und k' es' i = some r' → FoundR μ r r'
  | [], _, i, r, r', h, he, hn => by
    cases he
    simp only [findA, Option.some.injEq] at h
    simp only [Instr.findNow, Option.some.injEq] at hn
    subst h; subst hn; rfl
  | e :: es, _, i, r, r', h, he, hn => by
    cases he with
    | cons h1 h2 =>
      rename_i e' es'
      simp only [findA] at h
      simp only [Instr.findNow] at hn
      cases hq : eqAt E 10000 kt k e.key with
      | none => rw [hq] at h; cases h
      | some b =>
        rw [hq] at h
        cases hs : Instr.sameNow ti.und k' e'.key with
        | none => rw [hs] at hn; cases hn
        | some c =>
          rw [hs] at hn
          have := sameNow_eqAt hi hk h1.key hs hq
          subst this
          cases c with
          | true =>
            simp only [Option.some.injEq] at h hn
            subst h; subst hn
            exact ⟨e'.val, rfl, h1.val⟩
          | false =>
            simp only [] at h hn
            exact findNow_sound hi hk es es' (i + 1) r r' h h2 hn

theorem findKey_sound (hE : EnvOK P E) {kt : TypeId} {ti : TI} (hi : E.ti.get kt = some ti) {k k' : Value} (hk : VR μ k k') {es es' : List MapEntry} {r : Option (Nat × Value)} (h : findA E kt k es 0 = some r) (he : EntriesR μ es es') :
    ∃ r', (Instr.findKey kt k' es').run P w = .ok r' w ∧ FoundR μ r r' := by
  unfold Instr.findKey
  simp only [Sem.run_bind, hE.run_und hi, Result.andThen_ok]
  cases hn : Instr.findNow ti.und k' es' 0 with
  | some r' => exact ⟨r', rfl, findNow_sound hi hk es es' 0 r r' h he hn⟩
  | none => exact findAsking_sound hE hk es es' 0 r h he

theorem keyTy (hE : EnvOK P E) {kt : TypeId} {k : Value} (h : keyOk E 10000 kt k = true) : ∃ ti, E.ti.get kt = some ti := by
  have h' : ∃ N, keyOk E (N + 1) kt k = true := ⟨9999, h⟩
  clear h
  obtain ⟨N, h'⟩ := h'
  simp only [keyOk] at h'
  cases hi : E.ti.get kt with
  | none => rw [hi] at h'; cases h'
  | some ti => exact ⟨ti, rfl⟩

theorem getMap (hr : HR μ st w.heap base) {b : Nat} {L : Loc} {es : List MapEntry} {clock : Nat} (hb : μ b = some L) (hg : st.heap.get b = some (.map es clock)) :
    ∃ es', w.heap[L.blk]? = some (.map es' clock) ∧ EntriesR μ es es'.toList ∧ (getObj L.blk).run P w = .ok (.map es' clock) w := by
  obtain ⟨o', a, es', e, r⟩ := hr.obj b L _ hb hg
  subst e
  exact ⟨es', a, r, by simp [getObj, Sem.run, a]⟩

theorem EntriesR.length {l l' : List MapEntry} (h : EntriesR μ l l') : l'.length = l.length := by
  induction h with
  | nil => rfl
  | cons _ _ ih => simp [ih]

theorem lookup_sound (hE : EnvOK P E) (hr : HR μ st w.heap base) {t : TypeId} {x x' k k' v : Value} {ok : Bool} (h : lookupA E st t x k ok = some v) (hx : VR μ x x') (hk : VR μ k k') : Pur P μ w (Instr.lookup t x' k' ok) v := by
  unfold lookupA at h
  cases hi : E.ti.get t with
  | none => rw [hi] at h; cases h
  | some i =>
    rw [hi] at h
    simp only [] at h
    have hund := hE.run_und hi w
    cases hu : i.und with
    | map kt et =>
      rw [hu] at h hund
      simp only [] at h
      cases hko : keyOk E 10000 kt k with
      | false => rw [hko] at h; cases h
      | true =>
        rw [hko] at h
        simp only [cond_true] at h
        obtain ⟨ti, hti⟩ := keyTy hE hko
        cases he : E.ti.get et with
        | none => rw [he] at h; cases h
        | some ei =>
          rw [he] at h
          simp only [] at h
          have hck : ∀ em, (Instr.checkKey em 10000 kt k').run P w = .ok () w := fun em => checkKey_sound hE em 10000 kt k k' hko hk
          have fin : ∀ (r : Option (Nat × Value)) (r' : Option (Nat × Value)), FoundR μ r r' → (match some r with | some (some (_, v)) => some (cond ok (.tuple #[v, .bool true]) v) | some none => some (cond ok (.tuple #[ei.zero, .bool false]) ei.zero) | none => none) = some v →
              ∃ v', ((do
                let (v, ok') ← match r' with
                  | some (_, v) => pure (v, true)
                  | none => pure (← zeroValue et, false)
                pure (if ok then .tuple #[v, .bool ok'] else v) : Sem Value)).run P w = .ok v' w ∧ VR μ v v' := by
            intro r r' hf hv
            cases r with
            | none =>
              have : r' = none := hf
              subst this
              simp only [Option.some.injEq] at hv
              subst hv
              have hz := plainV_VR μ (hE.zero et ei he).1
              cases ok
              · exact ⟨ei.zero, by simp [hE.run_zero he], hz⟩
              · exact ⟨.tuple #[ei.zero, .bool false], by simp [hE.run_zero he], .tuple _ _ (.cons hz (.cons (.bool _) .nil))⟩
            | some q =>
              obtain ⟨n, u⟩ := q
              obtain ⟨u', rfl, hu'⟩ := hf
              simp only [Option.some.injEq] at hv
              subst hv
              cases ok
              · exact ⟨u', by simp, hu'⟩
              · exact ⟨.tuple #[u', .bool true], by simp, .tuple _ _ (.cons hu' (.cons (.bool _) .nil))⟩
          cases hx with
          | mnil =>
            simp only [] at h
            obtain ⟨v', a, b⟩ := fin none none rfl h
            refine ⟨v', ?_, b⟩
            have hfk : (Instr.findKey kt k' []).run P w = .ok none w := by
              obtain ⟨r', e1, e2⟩ := findKey_sound (w := w) hE hti hk (es := []) (es' := []) (r := none) rfl .nil
              have : r' = none := e2
              rw [this] at e1; exact e1
            simp only [Instr.lookup, Sem.run_bind, hund, Result.andThen_ok, Sem.run_pure, hck, Array.toList_empty, hfk]
            simpa using a
          | map b L hb =>
            simp only [] at h
            cases hg : st.heap.get b with
            | none => rw [hg] at h; cases h
            | some ob =>
              rw [hg] at h
              cases ob with
              | map es clock =>
                simp only [] at h
                obtain ⟨es', _, hes, hget⟩ := getMap (P := P) hr hb hg
                cases hf : findA E kt k es 0 with
                | none => rw [hf] at h; cases h
                | some r =>
                  rw [hf] at h
                  obtain ⟨r', e1, e2⟩ := findKey_sound (w := w) hE hti hk hf hes
                  obtain ⟨v', a, c⟩ := fin r r' e2 h
                  refine ⟨v', ?_, c⟩
                  simp only [Instr.lookup, Sem.run_bind, hund, Result.andThen_ok, Sem.run_pure, hget, hck, e1]
                  exact a
              | _ => cases h
          | _ => cases h
    | _ => rw [hu] at h; cases h

theorem len_sound (hE : EnvOK P E) (hr : HR μ st w.heap base) {ts : Array TypeId} {ty : TypeId} {args : List Value} {args' : Array Value} {v : Value} (h : lenOp E st ts args = some v) (ha : VRL μ args args'.toList) :
    Pur P μ w (Builtin.len_ ts ty args') v := by
  unfold lenOp at h
  split at h
  · rename_i t trest x xrest hts
    have ht0 : ts[0]? = some t := by rw [← Array.getElem?_toList, hts]; rfl
    generalize hargs : args'.toList = la at ha
    cases ha with
    | cons hx hxr =>
      rename_i x' r'
      have ha0 : args'[0]? = some x' := by rw [← Array.getElem?_toList, hargs]; rfl
      cases hi : E.ti.get t with
      | none => rw [hi] at h; cases h
      | some i =>
        rw [hi] at h
        simp only [] at h
        have hund := hE.run_und hi w
        cases hu : i.und <;> rw [hu] at h hund <;> cases hx <;> simp only [Option.some.injEq] at h <;> first
          | (cases h; done)
          | (subst h; exact ⟨_, by simp [Builtin.len_, ht0, ha0, hund, goInt], .int _ _⟩)
          | (rename_i b L hb
             cases hg : st.heap.get b with
             | none => rw [hg] at h; cases h
             | some ob =>
               rw [hg] at h
               cases ob with
               | map es clock =>
                 simp only [Option.some.injEq] at h
                 subst h
                 obtain ⟨es', _, hes, hget⟩ := getMap (P := P) hr hb hg
                 refine ⟨.int .i64 es'.size, by simp [Builtin.len_, ht0, ha0, hund, goInt, hget], ?_⟩
                 have : es'.size = es.length := by have := hes.length; simpa using this
                 rw [this]; exact .int _ _
               | _ => cases h)
  · cases h

end
end Go.Det
