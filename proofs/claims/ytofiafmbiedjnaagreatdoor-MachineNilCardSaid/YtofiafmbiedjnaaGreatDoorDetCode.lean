/- Statements, calls, and the interpreter as a whole. -/
import Derived.Test.YtofiafmbiedjnaaGreatDoorDetRegion
set_option autoImplicit false
namespace Go

def Exit.plain (Q : Exit → Act → World → Prop) : Exit → Act → World → Prop
  | .goto _, _, _ => False
  | e, a, w => Q e a w

theorem wpIn_scope_plain {F : Fence} {n : Nat} {P : Program} {Q : Exit → Act → World → Prop} {a : Act} {w : World} {c : Code} (h : c.wpIn F n P (Exit.plain Q) a w) : (Code.scope c).wpIn F n P Q a w := by
  intro b k cs hro hb hr
  have s1 : step P (lone (b.atR a (.code (.scope c) :: k)) cs w) = .next (lone (b.atR a (.code c :: .inScope c :: k)) cs w) := step_lone_go (by simp [stepG, stepG.exec, Frame.atR])
  have s2 : ∀ (a : Act) (w : World), step P (lone (b.atR a (.inScope c :: k)) cs w) = .next (lone (b.atR a k) cs w) := fun a w => step_lone_go (by simp [stepG, stepG.exec, Frame.atR])
  have h0 : (lone (b.atR a (.code (.scope c) :: k)) cs w).fenced P F := fenced_calm hb hr rfl
  obtain ⟨e, a₁, w₁, hq, harr⟩ := h b (.inScope c :: k) cs hro hb hr
  cases e with
  | normal => exact ⟨.normal, a₁, w₁, hq, .head h0 s1 (StepsIn.trans harr (.one (fenced_calm hb hr rfl) (s2 _ _)))⟩
  | exit id =>
    have hx : exitTo id (.inScope c :: k) = exitTo id k := by simp [exitTo]
    exact ⟨.exit id, a₁, w₁, hq, fun k' hk => .head h0 s1 (harr.1 k' (by rw [hx]; exact hk)), fun hr' hk => let ⟨k₁, h1, h2⟩ := harr.2 hr' (by rw [hx]; exact hk); ⟨k₁, h1, .head h0 s1 h2⟩⟩
  | goto l => exact hq.elim
  | ret => exact ⟨_, a₁, w₁, hq, .of_steps (.one h0 s1) harr⟩
  | panic ch => exact ⟨_, a₁, w₁, hq, .of_steps (.one h0 s1) harr⟩
  | outgrown => exact ⟨_, a₁, w₁, hq, .of_steps (.one h0 s1) harr⟩

end Go

namespace Go.Det

section
variable {P : Program} {E : Env}

theorem wd_round (r : Option Nat) : (wd r).round = r := rfl

theorem callee1_sound {μ : Ren} {v v' y y' : Value} {g : FuncId} {args : List Value} (h : callee1 v y = some (g, args)) (hv : VR μ v v') (hy : VR μ y y') :
    ∃ a' c', v' = .func (.func g) a' c' ∧ VRL μ args (a' ++ #[y'] ++ c').toList := by
  unfold callee1 at h
  cases hv with
  | func f k a a' c c' hf ha hc =>
    cases f with
    | func f =>
      have : k = .func f := hf
      subst this
      simp only [Option.some.injEq, Prod.mk.injEq] at h
      obtain ⟨rfl, rfl⟩ := h
      refine ⟨a', c', rfl, ?_⟩
      rw [Array.toList_append, Array.toList_append]
      exact (ha.append (.cons hy .nil)).append hc
    | _ => cases h
  | _ => cases h

/-- 'for .. := range f' -/
theorem rangeFunc_sound (hE : EnvOK P E) {S : Self} {m : Nat} (hS : SelfOK P E S m) {ro : Option Nat} {fn nt : Nat} {f : Operand} {ps : Array Tmp} {assign body : Code} {t : Tr Value} {d : List Nat} {st : St} {l : List CRes}
    (h : rangeFuncA E S ro fn nt f ps.toList assign body t d st = some l) {μ : Ren} {w : World} {base : Nat} {a : Act} {r : Option Nat} (hro : ro = none → r = none) (hr : HR μ st w.heap base) (hρ : RR μ (look t) a.tmps)
    (hn : a.tmps.size = nt) (hd : DefR μ d a.defers) : (Code.rangeFunc f ps assign body).wpIn (wd r) 0 P (Post μ st w base nt l) a w := by
  unfold rangeFuncA at h
  cases ro with
  | some _ => simp only [] at h; cases h
  | none =>
    have hr0 := hro rfl
    subst hr0
    simp only [] at h
    cases hp : st.push (.defd true) with
    | none => rw [hp] at h; cases h
    | some q =>
      obtain ⟨b, s1⟩ := q
      rw [hp] at h
      simp only [] at h
      cases hf : opd (look t) f with
      | none => rw [hf] at h; cases h
      | some fv =>
        rw [hf] at h
        simp only [] at h
        cases hp2 : s1.push (.loop { state := .ready, pending := none, fn := fn, tmps := t, nt := nt, params := ps.toList, assign := assign, body := body }) with
        | none => rw [hp2] at h; cases h
        | some q2 =>
          obtain ⟨lb, s2⟩ := q2
          rw [hp2] at h
          simp only [] at h
          cases hc : callee1 fv (.func (.yield lb) #[] #[]) with
          | none => rw [hc] at h; cases h
          | some q3 =>
            obtain ⟨g, args⟩ := q3
            rw [hc] at h
            simp only [] at h
            cases hg : E.fn.get g with
            | none => rw [hg] at h; cases h
            | some gfn =>
              cases hcall : S.call g args s2 with
              | none => rw [hg, hcall] at h; cases h
              | some rs =>
                rw [hg, hcall] at h
                simp only [] at h
                have hcol := collect_spec h
                refine wpIn_rangeFunc ?_
                intro fn' _
                rw [wd_round]
                -- the two blocks
                obtain ⟨μ1, i1, i2, i3⟩ := HR.newObj hr hp rfl (o' := .deferred (some [])) rfl
                obtain ⟨rec, hrec⟩ : ∃ rec : LoopState → Option Code → Loop, rec = fun s pe => { state := s, pending := pe, fn := fn', tmps := a.tmps, params := ps, assign := assign, body := body, defers := w.heap.size } := ⟨_, rfl⟩
                have hsz1 : (w.alloc (.deferred (some []))).heap.size = w.heap.size + 1 := World.size_alloc _ _
                obtain ⟨μ2, j1, j2, j3⟩ := HR.newObj i1 hp2 rfl (o' := .loop (rec .ready none)) ⟨a.tmps, w.heap.size, ps, fn', by rw [hrec], rfl, hn, by
                  refine RR.mono ?_ (hρ.mono i2.sub)
                  exact sub_upd _ (i1.fresh _ (Nat.le_refl _))⟩
                rw [hsz1] at j3
                have hall : Ex μ st w μ2 s2 _ base := i2.trans j2
                have hfv := (opd_sound (hρ.mono hall.sub) hf)
                obtain ⟨a', c', e1, e2⟩ := callee1_sound hc hfv (y' := .func (.yield (w.heap.size + 1)) #[] #[]) (.func _ _ _ _ _ _ ⟨_, j3, rfl⟩ .nil .nil)
                obtain ⟨k1, k2, k3⟩ := hE.fn g gfn hg
                have hb1 : μ2 b = some ⟨w.heap.size, 0, 0, 0⟩ := j2.sub.1 _ _ i3
                refine ⟨w.heap.size + 1, [{ target := .collected w.heap.size, args := #[] }], (w.alloc (.deferred (some []))).alloc (.loop (rec .ready none)), { target := .fn (.func g) c', args := a' ++ #[.func (.yield (w.heap.size + 1)) #[] #[]] }, (w.alloc (.deferred (some []))).alloc (.loop (rec .ready none)), g,
                  a' ++ #[.func (.yield (w.heap.size + 1)) #[] #[]] ++ c', (w.alloc (.deferred (some []))).alloc (.loop (rec .ready none)), ?_, ?_, fun _ _ => trivial, ?_, (fun e => by cases e), ?_⟩
                · rw [hrec]; exact run_enterLoop_outer fn' a.tmps ps assign body
                · show (Deferred.ofValue (a.eval f) _).run P _ = _
                  have hm : Array.map a.eval (rangeCall f (w.heap.size + 1)).args = #[.func (.yield (w.heap.size + 1)) #[] #[]] := by simp [Act.eval]
                  rw [e1, hm]
                  rfl
                · exact run_callFunc_enter k1 k2 k3 _
                · have hcs := hS.call _ _ _ _ hcall μ2 _ base _ j1 e2
                  refine CallsIn.mono hcs ?_
                  rintro e w3 ⟨v', rfl, x, hx, μ3, q1, q2, q3⟩
                  obtain ⟨out, f1, f2⟩ := hcol x hx
                  have hl3 : μ3 lb = some ⟨w.heap.size + 1, 0, 0, 0⟩ := q3.sub.1 _ _ j3
                  have hb3 : μ3 b = some ⟨w.heap.size, 0, 0, 0⟩ := q3.sub.1 _ _ hb1
                  cases hxl : x.s.heap.get lb with
                  | none => rw [hxl] at f1; cases f1
                  | some ob =>
                    rw [hxl] at f1
                    cases ob with
                    | loop r1 =>
                      simp only [] at f1
                      cases hset : x.s.heap.set lb .dead with
                      | none => rw [hset] at f1; cases hst : r1.state <;> rw [hst] at f1 <;> cases f1
                      | some hp3 =>
                        rw [hset] at f1
                        obtain ⟨ob', hob, tm, df, ps2, fn2, rfl, hps2, hsz2, hρ2⟩ := q2.obj lb _ _ hl3 hxl
                        have hnb : r1.state ≠ .busy := by
                          intro e
                          rw [e] at f1; cases f1
                        have f1' : (match r1.pending with
                              | none => some [({ e := .normal, t := t, d := b :: d, s := { x.s with heap := hp3 } } : CRes)]
                              | some .ret => some [{ e := .ret, t := t, d := b :: d, s := { x.s with heap := hp3 } }]
                              | some (.exit id) => some [{ e := .exit id, t := t, d := b :: d, s := { x.s with heap := hp3 } }]
                              | some _ => none) = some out := by
                          cases hst : r1.state <;> rw [hst] at f1 <;> first | exact f1 | exact absurd hst hnb
                        obtain ⟨g1, g2⟩ := HR.setObj q2 (o' := .loop { state := .exhausted, pending := r1.pending, fn := fn2, tmps := tm, params := ps2, assign := r1.assign, body := r1.body, defers := df }) hl3 hxl rfl rfl hset rfl trivial
                        have hfin := hall.trans (q3.trans g2)
                        have hend := run_endLoop (P := P) hob hnb
                        have hdef : DefR μ3 (b :: d) ([{ target := .collected w.heap.size, args := #[] }] ++ a.defers) := ⟨_, _, hb3, rfl, hd.mono (hall.sub.trans q3.sub)⟩
                        have hρ3 : RR μ3 (look t) a.tmps := hρ.mono (hall.sub.trans q3.sub)
                        refine ⟨r1.pending, _, hend, ?_⟩
                        cases hpe : r1.pending with
                        | none =>
                          rw [hpe] at f1' g1 hfin
                          simp only [Option.some.injEq] at f1'
                          subst f1'
                          exact ⟨_, f2 _ (List.mem_singleton.2 rfl), μ3, rfl, hρ3, hn, hdef, g1, hfin⟩
                        | some c =>
                          rw [hpe] at f1' g1 hfin
                          cases c with
                          | ret =>
                            simp only [Option.some.injEq] at f1'
                            subst f1'
                            exact wpIn_ret ⟨_, f2 _ (List.mem_singleton.2 rfl), μ3, rfl, hρ3, hn, hdef, g1, hfin⟩
                          | exit id =>
                            simp only [Option.some.injEq] at f1'
                            subst f1'
                            exact wpIn_exit ⟨_, f2 _ (List.mem_singleton.2 rfl), μ3, rfl, hρ3, hn, hdef, g1, hfin⟩
                          | _ => cases f1'
                    | _ => cases f1

theorem Post.sub {μ : Ren} {st : St} {w : World} {base nt : Nat} {l l' : List CRes} (hl : ∀ x ∈ l', x ∈ l) {e : Exit} {a' : Act} {w' : World} (hp : Post μ st w base nt l' e a' w') : Post μ st w base nt l e a' w' := by
  obtain ⟨x, hx, r⟩ := hp
  exact ⟨x, hl x hx, r⟩

theorem ER_det {x : AExit} {e : Exit} (h : ER x e) : (x = .normal ∧ e = .normal) ∨ (x ≠ .normal ∧ e ≠ .normal) := by
  cases x with
  | normal => exact .inl ⟨rfl, h⟩
  | exit id => have : e = .exit id := h; subst this; exact .inr ⟨by simp, by simp⟩
  | goto l => have : e = .goto l := h; subst this; exact .inr ⟨by simp, by simp⟩
  | ret => have : e = .ret := h; subst this; exact .inr ⟨by simp, by simp⟩

theorem then_other {K : Act → World → Prop} {Q : Exit → Act → World → Prop} {e : Exit} (he : e ≠ .normal) {a : Act} {w : World} (h : Q e a w) : Exit.then K Q e a w := by
  cases e <;> first | exact absurd rfl he | exact h

/-- A statement. -/
theorem codeA_sound (hE : EnvOK P E) {S : Self} {m : Nat} (hS : SelfOK P E S m) {ro : Option Nat} {fn nt : Nat} : ∀ (c : Code) (t : Tr Value) (d : List Nat) (st : St) (l : List CRes), codeA E S ro fn nt c t d st = some l →
    ∀ (μ : Ren) (w : World) (base : Nat) (a : Act) (r : Option Nat), (ro = none → r = none) → HR μ st w.heap base → RR μ (look t) a.tmps → a.tmps.size = nt → DefR μ d a.defers → c.wpIn (wd r) 0 P (Post μ st w base nt l) a w := by
  intro c
  induction c with
  | skip =>
    intro t d st l h μ w base a r hro hr hρ hn hd
    simp only [codeA, Option.some.injEq] at h
    subst h
    exact wpIn_skip ⟨_, List.mem_singleton.2 rfl, μ, rfl, hρ, hn, hd, hr, Ex.refl _ _ _ _⟩
  | label k =>
    intro t d st l h μ w base a r hro hr hρ hn hd
    simp only [codeA, Option.some.injEq] at h
    subst h
    exact wpIn_label ⟨_, List.mem_singleton.2 rfl, μ, rfl, hρ, hn, hd, hr, Ex.refl _ _ _ _⟩
  | region id ops dr =>
    intro t d st l h μ w base a r hro hr hρ hn hd
    simp only [codeA] at h
    cases dr with
    | true => exact runDrawn_sound hE hS h hr hρ hn hd id
    | false =>
      simp only [cond_false] at h
      refine wpIn_region ?_
      have := runOps_sound (P := P) (r := r) (base := base) (Q := Post μ st w base nt l) hE hS ops.toList 0 t st l (by simp) h μ w a hr hρ hn hd (fun _ _ _ h => h)
      rw [List.range_eq_range']
      simpa using this
  | seq x y ihx ihy =>
    intro t d st l h μ w base a r hro hr hρ hn hd
    simp only [codeA] at h
    cases hx : codeA E S ro fn nt x t d st with
    | none => rw [hx] at h; cases h
    | some l1 =>
      rw [hx] at h
      simp only [] at h
      have hcol := collect_spec h
      refine wpIn_seq (wpIn_mono (ihx t d st l1 hx μ w base a r hro hr hρ hn hd) ?_)
      rintro e a1 w1 ⟨z, hz, μ1, e1, e2, e3, e4, e5, e6⟩
      obtain ⟨out, f1, f2⟩ := hcol z hz
      rcases ER_det e1 with ⟨g1, rfl⟩ | ⟨g1, g2⟩
      · rw [g1] at f1
        refine wpIn_mono (ihy z.t z.d z.s out f1 μ1 w1 base a1 r hro e5 e2 e3 e4) ?_
        intro e a2 w2 hp
        exact Post.back e6 f2 hp
      · refine then_other g2 ⟨z, ?_, μ1, e1, e2, e3, e4, e5, e6⟩
        cases hze : z.e <;> rw [hze] at f1 g1 <;> first
          | exact absurd rfl g1
          | (simp only [Option.some.injEq] at f1; exact f2 _ (by rw [← f1]; simp))
  | cond c x y ihx ihy =>
    intro t d st l h μ w base a r hro hr hρ hn hd
    simp only [codeA] at h
    cases hc : opd (look t) c with
    | none => rw [hc] at h; cases h
    | some v =>
      rw [hc] at h
      have hv := opd_sound hρ hc
      generalize hev : a.eval c = v' at hv
      cases hv with
      | bool b =>
        simp only [] at h
        refine wpIn_cond hev ?_
        cases b with
        | true => exact ihx t d st l h μ w base a r hro hr hρ hn hd
        | false => exact ihy t d st l h μ w base a r hro hr hρ hn hd
      | _ => cases h
  | block id x ih =>
    intro t d st l h μ w base a r hro hr hρ hn hd
    simp only [codeA] at h
    cases hx : codeA E S ro fn nt x t d st with
    | none => rw [hx] at h; cases h
    | some l1 =>
      rw [hx] at h
      simp only [] at h
      have hcol := collect_spec h
      refine wpIn_block (wpIn_mono (ih t d st l1 hx μ w base a r hro hr hρ hn hd) ?_)
      rintro e a1 w1 ⟨z, hz, μ1, e1, e2, e3, e4, e5, e6⟩
      obtain ⟨out, f1, f2⟩ := hcol z hz
      cases hze : z.e with
      | exit i =>
        rw [hze] at f1 e1
        have : e = .exit i := e1
        subst this
        simp only [] at f1
        show if i = id then _ else _
        cases hb : Nat.beq i id with
        | true =>
          rw [hb] at f1
          simp only [cond_true, Option.some.injEq] at f1
          rw [if_pos (Nat.eq_of_beq_eq_true hb)]
          exact ⟨{ z with e := .normal }, f2 _ (by rw [← f1]; exact List.mem_singleton.2 rfl), μ1, rfl, e2, e3, e4, e5, e6⟩
        | false =>
          rw [hb] at f1
          simp only [cond_false, Option.some.injEq] at f1
          rw [if_neg (fun e => by rw [e] at hb; simp at hb)]
          exact ⟨z, f2 _ (by rw [← f1]; exact List.mem_singleton.2 rfl), μ1, by rw [hze]; rfl, e2, e3, e4, e5, e6⟩
      | normal =>
        rw [hze] at f1 e1
        have : e = .normal := e1
        subst this
        simp only [Option.some.injEq] at f1
        exact ⟨z, f2 _ (by rw [← f1]; exact List.mem_singleton.2 rfl), μ1, by rw [hze]; rfl, e2, e3, e4, e5, e6⟩
      | goto g =>
        rw [hze] at f1 e1
        have : e = .goto g := e1
        subst this
        simp only [Option.some.injEq] at f1
        exact ⟨z, f2 _ (by rw [← f1]; exact List.mem_singleton.2 rfl), μ1, by rw [hze]; rfl, e2, e3, e4, e5, e6⟩
      | ret =>
        rw [hze] at f1 e1
        have : e = .ret := e1
        subst this
        simp only [Option.some.injEq] at f1
        exact ⟨z, f2 _ (by rw [← f1]; exact List.mem_singleton.2 rfl), μ1, by rw [hze]; rfl, e2, e3, e4, e5, e6⟩
  | loop x ih =>
    intro t d st l h μ w base a r hro hr hρ hn hd
    refine wpIn_loop_rounds (m + 1) ?_
    rw [roundsIn_succ]
    simp only [codeA] at h
    cases hx : codeA E S ro fn nt x t d st with
    | none => rw [hx] at h; cases h
    | some l1 =>
      rw [hx] at h
      simp only [] at h
      have hcol := collect_spec h
      refine wpIn_mono (ih t d st l1 hx μ w base a r hro hr hρ hn hd) ?_
      rintro e a1 w1 ⟨z, hz, μ1, e1, e2, e3, e4, e5, e6⟩
      obtain ⟨out, f1, f2⟩ := hcol z hz
      rcases ER_det e1 with ⟨g1, rfl⟩ | ⟨g1, g2⟩
      · rw [g1] at f1
        refine hS.loop ro fn nt x z.t z.d z.s out f1 μ1 w1 base a1 r hro e5 e2 e3 e4 _ ?_
        intro e a2 w2 hp
        exact Post.back e6 f2 hp
      · refine then_other g2 ⟨z, ?_, μ1, e1, e2, e3, e4, e5, e6⟩
        cases hze : z.e <;> rw [hze] at f1 g1 <;> first
          | exact absurd rfl g1
          | (simp only [Option.some.injEq] at f1; exact f2 _ (by rw [← f1]; simp))
  | exit id =>
    intro t d st l h μ w base a r hro hr hρ hn hd
    simp only [codeA, Option.some.injEq] at h
    subst h
    exact wpIn_exit ⟨_, List.mem_singleton.2 rfl, μ, rfl, hρ, hn, hd, hr, Ex.refl _ _ _ _⟩
  | goto k =>
    intro t d st l h μ w base a r hro hr hρ hn hd
    simp only [codeA, Option.some.injEq] at h
    subst h
    exact wpIn_goto ⟨_, List.mem_singleton.2 rfl, μ, rfl, hρ, hn, hd, hr, Ex.refl _ _ _ _⟩
  | ret =>
    intro t d st l h μ w base a r hro hr hρ hn hd
    simp only [codeA, Option.some.injEq] at h
    subst h
    exact wpIn_ret ⟨_, List.mem_singleton.2 rfl, μ, rfl, hρ, hn, hd, hr, Ex.refl _ _ _ _⟩
  | rangeFunc f ps as b _ _ =>
    intro t d st l h μ w base a r hro hr hρ hn hd
    exact rangeFunc_sound hE hS h hro hr hρ hn hd
  | scope x ih =>
    intro t d st l h μ w base a r hro hr hρ hn hd
    simp only [codeA] at h
    cases hx : codeA E S ro fn nt x t d st with
    | none => rw [hx] at h; cases h
    | some l1 =>
      rw [hx] at h
      simp only [] at h
      have hcol := collect_spec h
      refine wpIn_scope_plain (wpIn_mono (ih t d st l1 hx μ w base a r hro hr hρ hn hd) ?_)
      rintro e a1 w1 ⟨z, hz, μ1, e1, e2, e3, e4, e5, e6⟩
      obtain ⟨out, f1, f2⟩ := hcol z hz
      cases hze : z.e with
      | goto g => rw [hze] at f1; cases f1
      | normal =>
        rw [hze] at f1 e1
        have : e = .normal := e1
        subst this
        simp only [Option.some.injEq] at f1
        exact ⟨z, f2 _ (by rw [← f1]; exact List.mem_singleton.2 rfl), μ1, by rw [hze]; rfl, e2, e3, e4, e5, e6⟩
      | exit i =>
        rw [hze] at f1 e1
        have : e = .exit i := e1
        subst this
        simp only [Option.some.injEq] at f1
        exact ⟨z, f2 _ (by rw [← f1]; exact List.mem_singleton.2 rfl), μ1, by rw [hze]; rfl, e2, e3, e4, e5, e6⟩
      | ret =>
        rw [hze] at f1 e1
        have : e = .ret := e1
        subst this
        simp only [Option.some.injEq] at f1
        exact ⟨z, f2 _ (by rw [← f1]; exact List.mem_singleton.2 rfl), μ1, by rw [hze]; rfl, e2, e3, e4, e5, e6⟩
  | refuse why =>
    intro t d st l h
    cases h

/-! ### Calls -/
theorem initT_spec : ∀ (l : List Value) (i : Nat) (t t' : Tr Value), initT l i t = some t' → treeOf l i t = some t'
  | [], i, t, t', h => by simpa [initT, treeOf] using h
  | v :: r, i, t, t', h => by
    simp only [initT] at h
    simp only [treeOf]
    cases hs : t.set i v with
    | none => rw [hs] at h; cases h
    | some t1 => rw [hs] at h; exact initT_spec r (Nat.add i 1) t1 t' h

theorem init_sound {μ : Ren} {args : List Value} {args' : Array Value} {t : Tr Value} (h : initT args 0 .nil = some t) (ha : VRL μ args args'.toList) (k : Nat) : RR μ (look t) (args' ++ Array.replicate k undef) := by
  have hl := ha.length
  simp only [Array.length_toList] at hl
  intro i
  have hg := treeOf_spec args 0 .nil t (initT_spec _ _ _ _ h) i
  unfold look
  rw [hg, Array.getD_eq_getD_getElem?]
  by_cases e : i < args.length
  · rw [if_pos (by omega)]
    obtain ⟨v', e1, e2⟩ := ha.get (List.getElem?_eq_getElem e)
    rw [Array.getElem?_append_left (by omega), ← Array.getElem?_toList, e1]
    simp only [Nat.sub_zero, List.getElem?_eq_getElem e, Option.getD_some]
    exact e2
  · rw [if_neg (by omega)]
    have e1 : (Tr.nil : Tr Value).get i = none := rfl
    rw [e1]
    rw [Array.getElem?_append_right (by omega), Array.getElem?_replicate]
    by_cases hk : i - args'.size < k
    · rw [if_pos hk]; exact VR.unit
    · rw [if_neg hk]; exact VR.unit

theorem results_sound (hE : EnvOK P E) {μ : Ren} {st : St} {w : World} {base : Nat} (hr : HR μ st w.heap base) {t : Tr Value} {tmps : Array Value} (hρ : RR μ (look t) tmps) {f : ResultVar → Sem Value}
    (hf1 : ∀ u, f (.tmp u) = pure (tmps.getD u undef)) (hf2 : ∀ u ty, f (.cell u ty) = (do loadVar ty (← asAddr (tmps.getD u undef)))) : ∀ (l : List ResultVar) (vs : List Value), resultsA E st t l = some vs →
    ∃ vs', (l.mapM f).run P w = .ok vs' w ∧ VRL μ vs vs'
  | [], vs, h => by
    simp only [resultsA, Option.some.injEq] at h
    subst h
    exact ⟨[], rfl, .nil⟩
  | x :: l, vs, h => by
    simp only [resultsA] at h
    cases hx : resultA E st t x with
    | none => rw [hx] at h; cases h
    | some v =>
      cases hl : resultsA E st t l with
      | none => rw [hx, hl] at h; cases h
      | some vr =>
        rw [hx, hl] at h
        simp only [Option.some.injEq] at h
        subst h
        obtain ⟨vs', e1, e2⟩ := results_sound hE hr hρ hf1 hf2 l vr hl
        have hv : ∃ v', (f x).run P w = .ok v' w ∧ VR μ v v' := by
          cases x with
          | tmp u =>
            simp only [resultA, Option.some.injEq] at hx
            subst hx
            exact ⟨_, by rw [hf1]; rfl, hρ u⟩
          | cell u ty =>
            simp only [resultA] at hx
            have hu := hρ u
            cases hlu : look t u with
            | pointer p =>
              rw [hlu] at hx hu
              cases p with
              | none => cases hx
              | some p =>
                simp only [] at hx
                obtain ⟨v', g1, g2⟩ := loadVar_sound (P := P) hE hr hx hu
                refine ⟨v', ?_, g2⟩
                rw [hf2]
                generalize tmps.getD u undef = q at hu g1 ⊢
                cases hu with
                | ptr b o L hb =>
                  simp only [Instr.loadAt, Instr.sureAddr, Sem.run_bind, Sem.run_pure, Result.andThen_ok] at g1
                  simp only [asAddr, Sem.run_bind, Sem.run_pure, Result.andThen_ok]
                  exact g1
            | _ => rw [hlu] at hx; cases hx
        obtain ⟨v', g1, g2⟩ := hv
        refine ⟨v' :: vs', ?_, .cons g2 e2⟩
        rw [List.mapM_cons]
        simp only [Sem.run_bind]
        rw [g1]
        simp only [Result.andThen_ok]
        rw [e1]
        rfl

theorem tuple_sound {μ : Ren} {vs : List Value} {vs' : List Value} (h : VRL μ vs vs') : VR μ (tupleOf vs) (if h : vs'.toArray.size = 1 then vs'.toArray[0] else .tuple vs'.toArray) := by
  cases h with
  | nil => exact .tuple _ _ .nil
  | cons hv ht =>
    cases ht with
    | nil => exact hv
    | cons hv2 ht2 =>
      rename_i l l'
      rw [dif_neg (by simp)]
      exact .tuple _ _ (.cons hv (.cons hv2 ht2))

theorem results_gen (hE : EnvOK P E) {μ : Ren} {st : St} {w : World} {base : Nat} (hr : HR μ st w.heap base) {t : Tr Value} {tmps : Array Value} (hρ : RR μ (look t) tmps) {f : ResultVar → Sem Value}
    (hf1 : ∀ u, f (.tmp u) = pure (tmps.getD u undef)) (hf2 : ∀ u ty, f (.cell u ty) = (do loadVar ty (← asAddr (tmps.getD u undef)))) (l : List ResultVar) (vs : List Value) (h : resultsA E st t l = some vs) :
    ∃ v', ((List.toArray <$> l.mapM f) >>= fun vs => pure (if h : vs.size = 1 then vs[0] else .tuple vs) : Sem Value).run P w = .ok v' w ∧ VR μ (tupleOf vs) v' := by
  obtain ⟨vs', e1, e2⟩ := results_sound (P := P) hE hr hρ hf1 hf2 _ _ h
  refine ⟨_, ?_, tuple_sound e2⟩
  simp only [Sem.run_bind, Sem.run_map]
  rw [e1]
  rfl

theorem run_results (hE : EnvOK P E) {μ : Ren} {st : St} {w : World} {base : Nat} (hr : HR μ st w.heap base) {t : Tr Value} {tmps : Array Value} (hρ : RR μ (look t) tmps) {fn : Func} {vs : List Value} (h : resultsA E st t fn.results.toList = some vs) :
    ∃ v', (results fn tmps).run P w = .ok v' w ∧ VR μ (tupleOf vs) v' := by
  unfold results
  rw [Array.mapM_eq_mapM_toList]
  exact results_gen hE hr hρ (fun _ => rfl) (fun _ _ => rfl) _ _ h

theorem leaves_sound (hE : EnvOK P E) {fn : Func} {tmps : Array Value} {R : Ending → World → Prop} {base : Nat} {t : Tr Value} {vs : List Value} {st2 : St} :
    ∀ (d : List Nat) (ds : List Deferred) (st : St) (w : World) (μ : Ren), shutDefs d st = some st2 → DefR μ d ds → HR μ st w.heap base → RR μ (look t) tmps → resultsA E st2 t fn.results.toList = some vs →
      (∀ v' w', VR μ (tupleOf vs) v' → HR μ st2 w'.heap base → Ex μ st w μ st2 w' base → R (.returned v') w') → LeavesInM Fence.wide 0 P fn tmps R ds .returning w := by
  intro d
  induction d with
  | nil =>
    intro ds st w μ hs hd hr hρ hres hR
    have : ds = [] := hd
    subst this
    simp only [shutDefs, Option.some.injEq] at hs
    subst hs
    obtain ⟨v', e1, e2⟩ := run_results (P := P) hE hr hρ hres
    exact ⟨v', e1, hR v' w e2 hr (Ex.refl _ _ _ _)⟩
  | cons b d ih =>
    intro ds st w μ hs hd hr hρ hres hR
    obtain ⟨L, r, hb, rfl, hd⟩ := hd
    simp only [shutDefs] at hs
    cases hg : st.heap.get b with
    | none => rw [hg] at hs; cases hs
    | some o =>
      rw [hg] at hs
      cases o with
      | defd op =>
        cases op with
        | false => cases hs
        | true =>
          simp only [] at hs
          cases hset : st.heap.set b .dead with
          | none => rw [hset] at hs; cases hs
          | some h1 =>
            rw [hset] at hs
            obtain ⟨o', ho', hR'⟩ := hr.obj b L _ hb hg
            have : o' = .deferred (some []) := hR'
            subst this
            obtain ⟨g1, g2⟩ := HR.setObj hr (o' := .deferred none) hb hg rfl rfl hset rfl trivial
            refine ⟨by simp, .inl ⟨L.blk, w.putObj L.blk (.deferred none), rfl, run_takeDeferred ho', ?_⟩⟩
            exact ih r { st with heap := h1 } _ μ hs hd g1 hρ hres (fun v' w' a1 a2 a3 => hR v' w' a1 a2 (g2.trans a3))
      | _ => cases hs

/-! ### Alike outcomes are one -/
theorem trEq_eq {α : Type} {f : α → α → Bool} (hf : ∀ x y, f x y = true → x = y) : ∀ {a b : Tr α}, trEq f a b = true → a = b
  | .nil, .nil, _ => rfl
  | .nil, .node _ _ _, h => by cases h
  | .node _ _ _, .nil, h => by cases h
  | .node v l r, .node v' l' r', h => by
    simp only [trEq, Bool.and_eq_true] at h
    obtain ⟨⟨h1, h2⟩, h3⟩ := h
    have e2 := trEq_eq hf h2
    have e3 := trEq_eq hf h3
    have e1 : v = v' := by
      cases v <;> cases v' <;> first | rfl | (cases h1; done) | (rw [hf _ _ h1])
    rw [e1, e2, e3]

theorem listEq_eq {α : Type} {f : α → α → Bool} (hf : ∀ x y, f x y = true → x = y) : ∀ {a b : List α}, listEq f a b = true → a = b
  | [], [], _ => rfl
  | [], _ :: _, h => by cases h
  | _ :: _, [], h => by cases h
  | x :: a, y :: b, h => by
    simp only [listEq, Bool.and_eq_true] at h
    rw [hf _ _ h.1, listEq_eq hf h.2]

theorem natBeq {a b : Nat} (h : Nat.beq a b = true) : a = b := Nat.eq_of_beq_eq_true h

theorem entryEq_eq {a b : MapEntry} (h : entryEq a b = true) : a = b := by
  cases a; cases b
  simp only [entryEq, Bool.and_eq_true] at h
  rw [vEq_eq _ h.1.1, vEq_eq _ h.1.2, natBeq h.2]

theorem objEq_eq {a b : AObj} (h : objEq a b = true) : a = b := by
  cases a <;> cases b <;> simp only [objEq, Bool.and_eq_true, beq_iff_eq, Bool.false_eq_true] at h <;> first
    | rfl
    | (obtain ⟨⟨⟨⟨⟨⟨h1, h2⟩, h3⟩, h4⟩, h5⟩, h6⟩, h7⟩ := h; rw [natBeq h1, trEq_eq (fun _ _ => vEq_eq _) h2, natBeq h3, natBeq h4, h5, h6, natBeq h7]; done)
    | (obtain ⟨h1, h2⟩ := h; rw [listEq_eq (fun _ _ => entryEq_eq) h1, natBeq h2]; done)
    | (obtain ⟨h1, h2⟩ := h; rw [bytesEq_iff h1, natBeq h2]; done)
    | (obtain ⟨⟨⟨⟨h1, h2⟩, h3⟩, h4⟩, h5⟩ := h; rw [h1, natBeq h2, listEq_eq (fun _ _ => natBeq) h3, h4, natBeq h5]; done)
    | (rw [h]; done)

theorem resEq_eq {a b : RRes} (h : resEq a b = true) : a = b := by
  obtain ⟨va, ha, na, ca⟩ := a
  obtain ⟨vb, hb, nb, cb⟩ := b
  simp only [resEq, Bool.and_eq_true] at h
  obtain ⟨⟨⟨h1, h2⟩, h3⟩, h4⟩ := h
  rw [vEq_eq _ h1, natBeq h2, trEq_eq (fun _ _ => listEq_eq (fun _ _ => natBeq)) h3, trEq_eq (fun _ _ => objEq_eq) h4]

theorem addRes_mem (x : RRes) : ∀ (l : List RRes), x ∈ addRes x l ∧ ∀ y ∈ l, y ∈ addRes x l
  | [] => ⟨by simp [addRes], by simp⟩
  | y :: l => by
    obtain ⟨h1, h2⟩ := addRes_mem x l
    simp only [addRes]
    cases hq : resEq x y with
    | true =>
      have := resEq_eq hq
      subst this
      exact ⟨by simp, fun z hz => hz⟩
    | false =>
      refine ⟨List.mem_cons_of_mem _ h1, fun z hz => ?_⟩
      rcases List.mem_cons.1 hz with rfl | hz
      · simp
      · exact List.mem_cons_of_mem _ (h2 z hz)

theorem dedup_mem : ∀ (l : List RRes), ∀ x ∈ l, x ∈ dedup l
  | [], x, hx => by cases hx
  | [a], x, hx => by simpa [dedup] using hx
  | a :: b :: r, x, hx => by
    have e : dedup (a :: b :: r) = addRes a (dedup (b :: r)) := rfl
    rw [e]
    rcases List.mem_cons.1 hx with rfl | hx
    · exact (addRes_mem _ _).1
    · exact (addRes_mem _ _).2 x (dedup_mem (b :: r) x hx)

/-! ### What is forgotten -/
theorem foldSet_spec {α : Type} (a : α) : ∀ (l : List Nat) (h h' : Tr α), l.foldlM (fun (h : Tr α) x => h.set x a) h = some h' → ∀ m, h'.get m = if m ∈ l then some a else h.get m := by
  intro l
  induction l with
  | nil =>
    intro h h' e m
    simp only [List.foldlM_nil] at e
    have : h = h' := Option.some.inj e
    subst this; simp
  | cons x r ih =>
    intro h h' e m
    simp only [List.foldlM_cons] at e
    cases hx : h.set x a with
    | none => rw [hx] at e; cases e
    | some h1 =>
      rw [hx] at e
      have e : r.foldlM (fun (h : Tr α) x => h.set x a) h1 = some h' := e
      rw [ih _ _ e m, Tr.get_set hx]
      by_cases hm : m ∈ r
      · simp [hm]
      · by_cases hmx : m = x <;> simp [hm, hmx]

theorem forget_spec {lo : Nat} {st st' : St} {D K : List Nat} (h : forget lo st D K = some st') :
    (∀ b ∈ D, lo ≤ b ∧ ∃ o, st.heap.get b = some o) ∧ (∀ k ∈ K, ∀ l, st.cls.get k = some l → ∀ b ∈ l, b ∈ D) ∧ st'.next = st.next ∧
      (∀ m, st'.heap.get m = if m ∈ D then some .dead else st.heap.get m) ∧ (∀ k, st'.cls.get k = if k ∈ K then some [] else st.cls.get k) := by
  unfold forget at h
  cases hc : forgetOk lo st D K with
  | false => rw [hc] at h; cases h
  | true =>
    rw [hc] at h
    simp only [cond_true] at h
    unfold forgetOk at hc
    rw [Bool.and_eq_true, List.all_eq_true, List.all_eq_true] at hc
    obtain ⟨h1, h2⟩ := hc
    cases hD : D.foldlM (fun (h : Tr AObj) b => h.set b .dead) st.heap with
    | none => rw [hD] at h; cases h
    | some hp =>
      cases hK : K.foldlM (fun (c : Tr (List Nat)) k => c.set k []) st.cls with
      | none => rw [hD, hK] at h; cases h
      | some cl =>
        rw [hD, hK] at h
        simp only [Option.some.injEq] at h
        subst h
        refine ⟨fun b hb => ?_, fun k hk l hl b hb => ?_, rfl, foldSet_spec _ _ _ _ hD, foldSet_spec _ _ _ _ hK⟩
        · have := h1 b hb
          rw [Bool.and_eq_true] at this
          refine ⟨by rw [← Nat.ble_eq]; exact this.1, ?_⟩
          cases ho : st.heap.get b with
          | none => rw [ho] at this; exact absurd this.2 (by simp [isObj])
          | some o => exact ⟨o, rfl⟩
        · have := h2 k hk
          rw [hl] at this
          simp only [clsSub, List.all_eq_true] at this
          have := this b hb
          rw [List.any_eq_true] at this
          obtain ⟨c, hc, e⟩ := this
          rw [Nat.eq_of_beq_eq_true e]; exact hc

theorem forget_HR {μ : Ren} {lo : Nat} {st st' : St} {D K : List Nat} {h : Array Obj} {base : Nat} (hf : forget lo st D K = some st') (hr : HR μ st h base) : HR μ st' h base := by
  obtain ⟨f1, f2, f3, f4, f5⟩ := forget_spec hf
  constructor
  · intro b hb; rw [f3] at hb; exact hr.fresh b hb
  · exact hr.inn
  · intro b o hb
    rw [f4] at hb
    rw [f3]
    by_cases hD : b ∈ D
    · obtain ⟨_, o', ho⟩ := f1 b hD
      exact hr.heapIn b o' ho
    · rw [if_neg hD] at hb; exact hr.heapIn b o hb
  · intro b L o hm hb
    rw [f4] at hb
    by_cases hD : b ∈ D
    · rw [if_pos hD] at hb
      obtain ⟨_, o', ho⟩ := f1 b hD
      obtain ⟨ob, h1, _⟩ := hr.obj b L o' hm ho
      cases hb
      exact ⟨ob, h1, trivial⟩
    · rw [if_neg hD] at hb; exact hr.obj b L o hm hb
  · intro b c L M o p hb hc hob hpc lo1 lo2 hne he
    rw [f4] at hob hpc
    by_cases hD : b ∈ D
    · rw [if_pos hD] at hob; cases hob; cases lo1
    · by_cases hD2 : c ∈ D
      · rw [if_pos hD2] at hpc; cases hpc; cases lo2
      · rw [if_neg hD] at hob
        rw [if_neg hD2] at hpc
        exact hr.sep b c L M o p hb hc hob hpc lo1 lo2 hne he
  · intro b o k hb hk
    rw [f4] at hb
    by_cases hD : b ∈ D
    · rw [if_pos hD] at hb; cases hb; cases hk
    · rw [if_neg hD] at hb
      obtain ⟨g1, l, g2, g3⟩ := hr.cls b o k hb hk
      rw [f3, f5]
      by_cases hK : k ∈ K
      · exact absurd (f2 k hK l g2 b g3) hD
      · rw [if_neg hK]; exact ⟨g1, l, g2, g3⟩
  · intro k l b hk hb
    rw [f5] at hk
    by_cases hK : k ∈ K
    · rw [if_pos hK] at hk; cases hk; cases hb
    · rw [if_neg hK] at hk; exact hr.clsIn k l b hk hb
  · exact hr.le

theorem forget_Ex {μ μ' : Ren} {st0 st st' : St} {w w' : World} {D K : List Nat} {base : Nat} (hf : forget st0.next st D K = some st') (h : Ex μ st0 w μ' st w' base) : Ex μ st0 w μ' st' w' base := by
  obtain ⟨f1, f2, f3, f4, f5⟩ := forget_spec hf
  refine ⟨h.sub, fun b hb hn => ?_, by rw [f3]; exact h.next, h.frame, h.size, h.os, h.output⟩
  obtain ⟨g1, g2⟩ := h.ghost b hb hn
  refine ⟨g1, ?_⟩
  rw [f4]
  by_cases hD : b ∈ D
  · have := (f1 b hD).1; omega
  · rw [if_neg hD]; exact g2

/-- An end that says less. -/
structure Le (st0 : St) (x z : RRes) : Prop where
  v : z.v = x.v
  hr : ∀ (μ : Ren) (h : Array Obj) (base : Nat), HR μ x.s h base → HR μ z.s h base
  ex : ∀ (μ μ' : Ren) (w w' : World) (base : Nat), Ex μ st0 w μ' x.s w' base → Ex μ st0 w μ' z.s w' base

theorem Le.refl (st0 : St) (x : RRes) : Le st0 x x := ⟨rfl, fun _ _ _ h => h, fun _ _ _ _ _ h => h⟩

theorem Le.trans {st0 : St} {x y z : RRes} (h : Le st0 x y) (g : Le st0 y z) : Le st0 x z :=
  ⟨g.v.trans h.v, fun _ _ _ a => g.hr _ _ _ (h.hr _ _ _ a), fun _ _ _ _ _ a => g.ex _ _ _ _ _ (h.ex _ _ _ _ _ a)⟩

theorem lone_le (st0 : St) (v : Value) (st : St) (b : Nat) : Le st0 { v := v, s := st } { v := v, s := lone st0.next st b } := by
  unfold lone
  split
  · rename_i n c sz el op fz k ho
    cases hl : st.cls.get k with
    | none => exact Le.refl _ _
    | some l =>
      simp only []
      cases ha : l.all (Nat.ble st0.next) with
      | false => exact Le.refl _ _
      | true =>
        simp only [cond_true]
        cases hk : st.kill b k with
        | none => exact Le.refl _ _
        | some s =>
          obtain ⟨l', g1, g2, g3, g4⟩ := St.kill_spec hk
          rw [hl] at g1; cases g1
          refine ⟨rfl, fun μ h base hr => (hr.kill hk ho rfl).1, fun μ μ' w w' base h => ⟨h.sub, fun c hc hn => ?_, by show st0.next ≤ s.next; rw [g2]; exact h.next, h.frame, h.size, h.os, h.output⟩⟩
          obtain ⟨e1, e2⟩ := h.ghost c hc hn
          refine ⟨e1, ?_⟩
          show s.heap.get c = _
          rw [g3]
          by_cases e : c ∈ l ∧ c ≠ b
          · have := List.all_eq_true.1 ha c e.1
            rw [Nat.ble_eq] at this
            omega
          · rw [if_neg e]; exact e2
  · exact Le.refl _ _

theorem loneAll_le (st0 : St) (v : Value) (R : List Nat) : ∀ (K : List Nat) (st : St), Le st0 { v := v, s := st } { v := v, s := loneAll st0.next R K st }
  | [], st => Le.refl _ _
  | k :: K, st => by
    have h1 : Le st0 { v := v, s := st } { v := v, s := lone1 st0.next R st k } := by
      unfold lone1
      split
      · split
        · exact lone_le _ _ _ _
        · exact Le.refl _ _
      · exact Le.refl _ _
    exact h1.trans (loneAll_le st0 v R K _)

theorem mergeB_le {st0 : St} {R : List Nat} {x y z : RRes} (hv : x.v = y.v) (h : mergeB st0.next R x y = some z) : Le st0 x z ∧ Le st0 y z := by
  unfold mergeB at h
  simp only [] at h
  generalize trDiff (listEq Nat.beq) x.s.cls y.s.cls (fun j => j) [] = K at h
  generalize K.foldl (fun acc k => (match x.s.cls.get k with | some l => l | none => []) ++ (match y.s.cls.get k with | some l => l | none => []) ++ acc) (trDiff objEq x.s.heap y.s.heap (fun j => j) []) = D at h
  generalize R.any (fun b => D.any (Nat.beq b)) = rr at h
  cases rr with
  | true => cases h
  | false =>
    simp only [cond_false] at h
    cases ha : forget st0.next x.s D K with
    | none => rw [ha] at h; cases h
    | some a =>
      cases hb : forget st0.next y.s D K with
      | none => rw [ha, hb] at h; cases h
      | some b =>
        rw [ha, hb] at h
        simp only [] at h
        cases hq : resEq { v := x.v, s := a } { v := y.v, s := b } with
        | false => rw [hq] at h; cases h
        | true =>
          rw [hq] at h
          simp only [cond_true, Option.some.injEq] at h
          subst h
          have e := resEq_eq hq
          simp only [RRes.mk.injEq] at e
          obtain ⟨_, rfl⟩ := e
          exact ⟨⟨rfl, fun _ _ _ g => forget_HR ha g, fun _ _ _ _ _ g => forget_Ex ha g⟩, ⟨hv, fun _ _ _ g => forget_HR hb g, fun _ _ _ _ _ g => forget_Ex hb g⟩⟩

theorem mergeA_le {st0 : St} {x y z : RRes} (h : mergeA st0.next x y = some z) : Le st0 x z ∧ Le st0 y z := by
  unfold mergeA at h
  cases hc : (vEq 100 x.v y.v && Nat.beq x.s.next y.s.next) with
  | false => rw [hc] at h; cases h
  | true =>
    rw [hc] at h
    simp only [cond_true] at h
    rw [Bool.and_eq_true] at hc
    have hv := vEq_eq _ hc.1
    obtain ⟨g1, g2⟩ := mergeB_le (by exact hv) h
    exact ⟨(loneAll_le st0 x.v _ _ x.s).trans g1, (loneAll_le st0 y.v _ _ y.s).trans g2⟩

theorem addRes2_le (st0 : St) (x : RRes) : ∀ (l : List RRes), (∃ z ∈ addRes2 st0.next x l, Le st0 x z) ∧ ∀ y ∈ l, ∃ z ∈ addRes2 st0.next x l, Le st0 y z
  | [] => ⟨⟨x, by simp [addRes2], Le.refl _ _⟩, by simp⟩
  | y :: l => by
    obtain ⟨⟨z0, h0, l0⟩, h2⟩ := addRes2_le st0 x l
    simp only [addRes2]
    cases hq : mergeA st0.next x y with
    | some z =>
      obtain ⟨g1, g2⟩ := mergeA_le hq
      refine ⟨⟨z, by simp, g1⟩, fun u hu => ?_⟩
      rcases List.mem_cons.1 hu with rfl | hu
      · exact ⟨z, by simp, g2⟩
      · exact ⟨u, by simp [hu], Le.refl _ _⟩
    | none =>
      refine ⟨⟨z0, by simp [h0], l0⟩, fun u hu => ?_⟩
      rcases List.mem_cons.1 hu with rfl | hu
      · exact ⟨u, by simp, Le.refl _ _⟩
      · obtain ⟨z, h3, h4⟩ := h2 u hu
        exact ⟨z, by simp [h3], h4⟩

theorem dedup2_le (st0 : St) : ∀ (l : List RRes), ∀ x ∈ l, ∃ z ∈ dedup2 st0.next l, Le st0 x z
  | [], x, hx => by cases hx
  | [a], x, hx => by
    have : x = a := by simpa using hx
    subst this
    exact ⟨x, by simp [dedup2], Le.refl _ _⟩
  | a :: b :: r, x, hx => by
    have e : dedup2 st0.next (a :: b :: r) = addRes2 st0.next a (dedup2 st0.next (b :: r)) := rfl
    rw [e]
    rcases List.mem_cons.1 hx with rfl | hx
    · exact (addRes2_le _ _ _).1
    · obtain ⟨z, h1, h2⟩ := dedup2_le st0 (b :: r) x hx
      obtain ⟨z', h3, h4⟩ := (addRes2_le st0 a _).2 z h1
      exact ⟨z', h3, h2.trans h4⟩

theorem Tr.get_mk {α : Type} (v : Option α) (l r : Tr α) (n : Nat) : (Tr.mk v l r).get n = (Tr.node v l r).get n := by
  cases v with
  | some x => rfl
  | none =>
    cases l with
    | node a b c => rfl
    | nil =>
      cases r with
      | node a b c => rfl
      | nil =>
        cases n with
        | zero => rfl
        | succ n => rw [Tr.get_succ]; simp [Tr.mk, Tr.get_nil]

theorem Tr.get_sift {α : Type} (p : Nat → α → Bool) : ∀ (t : Tr α) (ix : Nat → Nat) (n : Nat), (Tr.sift p t ix).get n = match t.get n with
    | some x => if p (ix n) x = true then none else some x
    | none => none := by
  intro t
  induction t with
  | nil => intro ix n; rfl
  | node v l r ihl ihr =>
    intro ix n
    unfold Tr.sift
    rw [Tr.get_mk]
    cases n with
    | zero =>
      rw [Tr.get_zero, Tr.get_zero]
      cases v with
      | none => rfl
      | some x => cases h : p (ix 0) x <;> simp [h]
    | succ n =>
      rw [Tr.get_succ, Tr.get_succ]
      by_cases h : n % 2 = 0
      · rw [if_pos h, if_pos h, ihl]
        have : Nat.add (Nat.mul 2 (n / 2)) 1 = n + 1 := by show 2 * (n / 2) + 1 = n + 1; omega
        rw [this]
      · rw [if_neg h, if_neg h, ihr]
        have : Nat.add (Nat.mul 2 (n / 2)) 2 = n + 1 := by show 2 * (n / 2) + 2 = n + 1; omega
        rw [this]

theorem siftSt_le (st0 : St) (v : Value) (st : St) : Le st0 { v := v, s := st } { v := v, s := siftSt st0.next st } := by
  have hh : ∀ m o, (siftSt st0.next st).heap.get m = some o → st.heap.get m = some o := by
    intro m o h
    have h : (Tr.sift (fun n o => Nat.ble st0.next n && isDead o) st.heap (fun j => j)).get m = some o := h
    rw [Tr.get_sift] at h
    cases hg : st.heap.get m with
    | none => rw [hg] at h; cases h
    | some x =>
      rw [hg] at h
      simp only [] at h
      split at h
      · cases h
      · exact h
  have hc : ∀ k l, (siftSt st0.next st).cls.get k = some l → st.cls.get k = some l := by
    intro k l h
    have h : (Tr.sift (fun _ l => noBlock l) st.cls (fun j => j)).get k = some l := h
    rw [Tr.get_sift] at h
    cases hg : st.cls.get k with
    | none => rw [hg] at h; cases h
    | some x =>
      rw [hg] at h
      simp only [] at h
      split at h
      · cases h
      · exact h
  have hc2 : ∀ k l b, st.cls.get k = some l → b ∈ l → (siftSt st0.next st).cls.get k = some l := by
    intro k l b h hb
    show (Tr.sift (fun _ l => noBlock l) st.cls (fun j => j)).get k = some l
    rw [Tr.get_sift, h]
    simp only []
    cases l with
    | nil => cases hb
    | cons x l => rfl
  refine ⟨rfl, fun μ h base hr => ?_, fun μ μ' w w' base h => ⟨h.sub, fun c hcn hn => ?_, h.next, h.frame, h.size, h.os, h.output⟩⟩
  · refine ⟨hr.fresh, hr.inn, fun b o hb => hr.heapIn b o (hh b o hb), fun b L o hm hb => hr.obj b L o hm (hh b o hb),
      fun b c L M o p hb hcm hob hpc => hr.sep b c L M o p hb hcm (hh _ _ hob) (hh _ _ hpc), fun b o k hb hk => ?_, fun k l b hk hb => hr.clsIn k l b (hc k l hk) hb, hr.le⟩
    obtain ⟨g1, l, g2, g3⟩ := hr.cls b o k (hh b o hb) hk
    exact ⟨g1, l, hc2 k l b g2 g3, g3⟩
  · obtain ⟨e1, e2⟩ := h.ghost c hcn hn
    refine ⟨e1, ?_⟩
    show (Tr.sift (fun n o => Nat.ble st0.next n && isDead o) st.heap (fun j => j)).get c = _
    rw [Tr.get_sift]
    have e2 : st.heap.get c = st0.heap.get c := e2
    rw [← e2]
    cases hg : st.heap.get c with
    | none => rfl
    | some x =>
      simp only []
      have : (Nat.ble st0.next c && isDead x) = false := by
        have : Nat.ble st0.next c = false := by
          cases hb : Nat.ble st0.next c with
          | false => rfl
          | true => rw [Nat.ble_eq] at hb; omega
        rw [this]; rfl
      rw [if_neg (by rw [this]; simp)]

theorem forgetT_eq {lo : Nat} {st st' : St} {D K : List Nat} (h : forgetT lo st (Tr.ofList (D.map fun b => (b, true))) D K = some st') : forget lo st D K = some st' := by
  unfold forgetT at h
  unfold forget
  cases hc : D.all (fun b => Nat.ble lo b && isObj (st.heap.get b)) && K.all (fun k => clsSub2 (Tr.ofList (D.map fun b => (b, true))) (st.cls.get k)) with
  | false => rw [hc] at h; cases h
  | true =>
    rw [hc] at h
    have hk : forgetOk lo st D K = true := by
      unfold forgetOk
      rw [Bool.and_eq_true] at hc ⊢
      refine ⟨hc.1, ?_⟩
      rw [List.all_eq_true]
      intro k hk
      have := List.all_eq_true.1 hc.2 k hk
      cases hl : st.cls.get k with
      | none => rfl
      | some l =>
        rw [hl] at this
        have this : l.all (inTr (Tr.ofList (D.map fun b => (b, true)))) = true := this
        show l.all (fun b => D.any (Nat.beq b)) = true
        rw [List.all_eq_true] at this ⊢
        intro b hb
        have := this b hb
        unfold inTr at this
        cases hg : (Tr.ofList (D.map fun b => (b, true))).get b with
        | none => rw [hg] at this; cases this
        | some x =>
          have := ofList_mem _ hg
          rw [List.mem_map] at this
          obtain ⟨c, hc, e⟩ := this
          simp only [Prod.mk.injEq] at e
          rw [List.any_eq_true]
          exact ⟨c, hc, by rw [e.1]; exact Nat.beq_refl b⟩
    rw [hk]
    exact h

theorem gcA_le (st0 : St) (r : RRes) : Le st0 r (gcA st0.next r) := by
  unfold gcA
  simp only []
  generalize unseen st0.next _ _ = D
  generalize goneCls _ _ = K
  cases hf0 : forgetT st0.next r.s (Tr.ofList (D.map fun b => (b, true))) D K with
  | none => exact Le.refl _ _
  | some s =>
    have hf := forgetT_eq hf0
    have h1 : Le st0 r { v := r.v, s := s } := ⟨rfl, fun _ _ _ g => forget_HR hf g, fun _ _ _ _ _ g => forget_Ex hf g⟩
    exact h1.trans (siftSt_le st0 r.v s)

theorem endsOf_le {E : Env} {f : FuncId} (st0 : St) (l : List RRes) : ∀ x ∈ l, ∃ z ∈ endsOf E f st0.next l, Le st0 x z := by
  intro x hx
  have h1 : ∃ z ∈ cond (mergeAt E f) (dedup2 st0.next l) l, Le st0 x z := by
    cases mergeAt E f with
    | true => exact dedup2_le st0 l x hx
    | false => exact ⟨x, hx, Le.refl _ _⟩
  obtain ⟨z, hz, hle⟩ := h1
  unfold endsOf
  simp only []
  cases E.gcs.any (Nat.beq f) with
  | false => exact ⟨z, hz, hle⟩
  | true => exact ⟨gcA st0.next z, List.mem_map.2 ⟨z, hz, rfl⟩, hle.trans (gcA_le st0 z)⟩

/-- A function's call. -/
theorem callBody_sound (hE : EnvOK P E) {S : Self} {m : Nat} (hS : SelfOK P E S m) {f : FuncId} {args : List Value} {st : St} {l : List RRes} (h : callBody E S f args st = some l) {μ : Ren} {w : World} {base : Nat} {args' : Array Value}
    (hr : HR μ st w.heap base) (ha : VRL μ args args'.toList) : CallsIn Fence.wide 0 P f args' w fun e w' => ∃ v', e = .returned v' ∧ Ret μ st w base l v' w' := by
  unfold callBody at h
  cases hf : E.fn.get f with
  | none => rw [hf] at h; cases h
  | some fn =>
    rw [hf] at h
    simp only [] at h
    cases hb : fn.body with
    | none => rw [hb] at h; cases h
    | some c =>
      cases ht : initT args 0 .nil with
      | none => rw [hb, ht] at h; cases h
      | some t =>
        rw [hb, ht] at h
        simp only [] at h
        cases hc : codeA E S none f (max fn.ntmps args.length) c t [] st with
        | none => rw [hc] at h; cases h
        | some xs =>
          rw [hc] at h
          simp only [] at h
          cases hcol0 : collect (leaveA E fn) xs with
          | none => rw [hcol0] at h; cases h
          | some rs =>
            rw [hcol0] at h
            simp only [Option.some.injEq] at h
            subst h
            have hcol := collect_spec hcol0
            obtain ⟨k1, _, _⟩ := hE.fn f fn hf
            have hlen := ha.length
            simp only [Array.length_toList] at hlen
            refine callsIn_of_wp_marks k1 hb trivial ?_
            have hcode := codeA_sound (P := P) hE hS c t [] st xs hc μ w base { tmps := args' ++ Array.replicate (fn.ntmps - args'.size) undef, defers := [] } none (fun _ => rfl) hr (init_sound ht ha _)
              (by simp only [Array.size_append, Array.size_replicate]; omega) rfl
            refine wpIn_mono hcode ?_
            rintro e a1 w1 ⟨x, hx, μ1, e1, e2, e3, e4, e5, e6⟩
            obtain ⟨out, f1, f2⟩ := hcol x hx
            have fin : (match shutDefs x.d x.s with
                | some st2 => match resultsA E st2 x.t fn.results.toList with
                  | some vs => some [({ v := tupleOf vs, s := st2 } : RRes)]
                  | none => none
                | none => none) = some out → LeavesInM Fence.wide 0 P fn a1.tmps (fun e w' => ∃ v', e = .returned v' ∧ Ret μ st w base (endsOf E f st.next rs) v' w') a1.defers .returning w1 := by
              intro f1
              cases hs : shutDefs x.d x.s with
              | none => rw [hs] at f1; cases f1
              | some st2 =>
                rw [hs] at f1
                simp only [] at f1
                cases hv : resultsA E st2 x.t fn.results.toList with
                | none => rw [hv] at f1; cases f1
                | some vs =>
                  rw [hv] at f1
                  simp only [Option.some.injEq] at f1
                  subst f1
                  refine leaves_sound hE x.d a1.defers x.s w1 μ1 hs e4 e5 e2 hv ?_
                  intro v' w' g1 g2 g3
                  obtain ⟨z, hz, hle⟩ := endsOf_le (E := E) (f := f) st _ _ (f2 _ (List.mem_singleton.2 rfl))
                  exact ⟨v', rfl, z, hz, μ1, by rw [hle.v]; exact g1, hle.hr _ _ _ g2, hle.ex _ _ _ _ _ (e6.trans g3)⟩
            unfold leaveA at f1
            cases hxe : x.e with
            | normal =>
              rw [hxe] at f1 e1
              have : e = .normal := e1
              subst this
              exact fin f1
            | ret =>
              rw [hxe] at f1 e1
              have : e = .ret := e1
              subst this
              exact fin f1
            | exit id => rw [hxe] at f1; cases f1
            | goto g => rw [hxe] at f1; cases f1

theorem stepA_ok (hE : EnvOK P E) {S : Self} {n : Nat} (ih : SelfOK P E S n) : SelfOK P E (stepA E S) (n + 1) := by
  refine ⟨?_, ?_, ?_⟩
  · intro f args st l h μ w base args' hr ha
    exact callBody_sound hE ih h hr ha
  · intro ro fn nt c t d st l h μ w base a r hro hr hρ hn hd
    exact codeA_sound hE ih c t d st l h μ w base a r hro hr hρ hn hd
  · intro ro fn nt c t d st l h μ w base a r hro hr hρ hn hd Q hQ
    rw [roundsIn_succ]
    have h' : codeA E S ro fn nt (.loop c) t d st = some l := h
    simp only [codeA] at h'
    cases hx : codeA E S ro fn nt c t d st with
    | none => rw [hx] at h'; cases h'
    | some l1 =>
      rw [hx] at h'
      simp only [] at h'
      have hcol := collect_spec h'
      refine wpIn_mono (codeA_sound hE ih c t d st l1 hx μ w base a r hro hr hρ hn hd) ?_
      rintro e a1 w1 ⟨z, hz, μ1, e1, e2, e3, e4, e5, e6⟩
      obtain ⟨out, f1, f2⟩ := hcol z hz
      rcases ER_det e1 with ⟨g1, rfl⟩ | ⟨g1, g2⟩
      · rw [g1] at f1
        refine ih.loop ro fn nt c z.t z.d z.s out f1 μ1 w1 base a1 r hro e5 e2 e3 e4 Q ?_
        intro e a2 w2 hp
        exact hQ _ _ _ (Post.back e6 f2 hp)
      · refine then_other g2 (hQ _ _ _ ⟨z, ?_, μ1, e1, e2, e3, e4, e5, e6⟩)
        cases hze : z.e <;> rw [hze] at f1 g1 <;> first
          | exact absurd rfl g1
          | (simp only [Option.some.injEq] at f1; exact f2 _ (by rw [← f1]; simp))


/-- The interpreter does what the model does. -/
theorem run_ok (hE : EnvOK P E) : ∀ n, SelfOK P E (run E n) n
  | 0 => ⟨fun _ _ _ _ h => (by cases h), fun _ _ _ _ _ _ _ _ h => (by cases h), fun _ _ _ _ _ _ _ _ h => (by cases h)⟩
  | n + 1 => stepA_ok hE (run_ok hE n)

/-- Nothing is known. -/
theorem HR.start (w : World) (q : Nat → Option Value) : HR ⟨fun _ => none, q⟩ st0 w.heap w.heap.size := by
  have hg : ∀ b, st0.heap.get b = none := fun _ => rfl
  have hc : ∀ b, st0.cls.get b = none := fun _ => rfl
  refine ⟨fun _ _ => rfl, fun b L h => (by cases h), fun b o h => ?_, fun b L o h => (by cases h), fun b c L M o p h => (by cases h), fun b o k h => ?_, fun k l b h => ?_, Nat.le_refl _⟩
  · rw [hg] at h; cases h
  · rw [hg] at h; cases h
  · rw [hc] at h; cases h

/-- **A CALL THAT THE INTERPRETER CAN RUN ENDS, WHATEVER THE TAPE SAYS, IN ONE OF ITS OUTCOMES; NOTHING THAT WAS THERE TURNS.** -/
theorem call_sound (hE : EnvOK P E) {n : Nat} {f : FuncId} {args : List Value} {l : List RRes} (h : (run E n).call f args st0 = some l) (w : World) (q : Nat → Option Value) {args' : Array Value} (ha : VRL ⟨fun _ => none, q⟩ args args'.toList) :
    Calls P f args' w fun e w' => ∃ v', e = .returned v' ∧ (∃ r ∈ l, ∃ μ' : Ren, μ'.opq = q ∧ VR μ' r.v v') ∧ (∀ B, B < w.heap.size → w'.heap[B]? = w.heap[B]?) ∧ w.heap.size ≤ w'.heap.size ∧ w'.os = w.os ∧ w'.output = w.output := by
  have := (run_ok hE n).call f args st0 l h _ w w.heap.size args' (HR.start w q) ha
  refine callsIn_wide.1 (this.mono ?_)
  rintro e w' ⟨v', rfl, r, hr, μ', h1, h2, h3⟩
  exact ⟨v', rfl, ⟨r, hr, μ', h3.sub.2, h1⟩, h3.frame, h3.size, h3.os, h3.output⟩


end
end Go.Det
