/- Rows of operations, with what they call. -/
import Derived.Test.YtofiafmbiedjnaaGreatDoorDetExec
import Derived.RangeFuncIn
import Derived.LoopNIn
set_option autoImplicit false
namespace Go.Det

theorem collect_spec {α β : Type} {f : α → Option (List β)} : ∀ {l : List α} {out : List β}, collect f l = some out → ∀ x ∈ l, ∃ o, f x = some o ∧ ∀ y ∈ o, y ∈ out
  | [], out, _, x, hx => by cases hx
  | [a], out, h, x, hx => by
    simp only [collect] at h
    have : x = a := by simpa using hx
    subst this
    exact ⟨out, h, fun y hy => hy⟩
  | a :: b :: r, out, h, x, hx => by
    have e : collect f (a :: b :: r) = (match f a, collect f (b :: r) with | some x, some y => some (x ++ y) | _, _ => none) := rfl
    rw [e] at h
    cases ha : f a with
    | none => rw [ha] at h; cases h
    | some oa =>
      cases hr : collect f (b :: r) with
      | none => rw [ha, hr] at h; cases h
      | some ob =>
        rw [ha, hr] at h
        simp only [Option.some.injEq] at h
        subst h
        rcases List.mem_cons.1 hx with rfl | hx
        · exact ⟨oa, ha, fun y hy => List.mem_append_left _ hy⟩
        · obtain ⟨o, h1, h2⟩ := collect_spec hr x hx
          exact ⟨o, h1, fun y hy => List.mem_append_right _ (h2 y hy)⟩

section
variable {P : Program} {E : Env} {μ : Ren} {st : St} {w : World} {base : Nat}

theorem look_set {t t' : Tr Value} {d : Nat} {v : Value} (h : t.set d v = some t') (i : Nat) : look t' i = if i = d then v else look t i := by
  unfold look
  rw [Tr.get_set h]
  by_cases e : i = d
  · simp [e]
  · simp [e]

theorem getD_set {l : Array Value} {d : Nat} {v : Value} (hd : d < l.size) (i : Nat) : (l.setIfInBounds d v).getD i undef = if i = d then v else l.getD i undef := by
  rw [Array.getD_eq_getD_getElem?, Array.getD_eq_getD_getElem?, Array.getElem?_setIfInBounds]
  by_cases e : d = i
  · subst e; simp [hd]
  · have e' : ¬ i = d := fun g => e g.symm
    simp [e, e']

theorem set_sound {t t' : Tr Value} {tmps : Array Value} {nt d : Nat} {v v' : Value} (h : put nt t (some d) v = some t') (hρ : RR μ (look t) tmps) (hn : tmps.size = nt) (hv : VR μ v v') :
    RR μ (look t') (tmps.setIfInBounds d v') ∧ (tmps.setIfInBounds d v').size = nt := by
  unfold put at h
  simp only [] at h
  cases hb : Nat.blt d nt with
  | false => rw [hb] at h; cases h
  | true =>
    rw [hb] at h
    simp only [cond_true] at h
    have hlt : d < tmps.size := by rw [hn]; simpa [Nat.blt_eq] using hb
    refine ⟨fun i => ?_, by simpa using hn⟩
    rw [look_set h, getD_set hlt]
    by_cases e : i = d
    · simp only [e, if_true]; exact hv
    · simp only [e, if_false]; exact hρ i

theorem put_sound {t t' : Tr Value} {a : Act} {nt : Nat} {dst : Option Tmp} {v v' : Value} (h : put nt t dst v = some t') (hρ : RR μ (look t) a.tmps) (hn : a.tmps.size = nt) (hv : VR μ v v') :
    RR μ (look t') (a.put dst v').tmps ∧ (a.put dst v').tmps.size = nt ∧ (a.put dst v').defers = a.defers := by
  cases dst with
  | none => simp only [put, Option.some.injEq] at h; subst h; exact ⟨hρ, hn, rfl⟩
  | some d =>
    obtain ⟨h1, h2⟩ := set_sound h hρ hn hv
    exact ⟨h1, h2, rfl⟩

theorem bindArgs_sound {nt : Nat} : ∀ {ps : List Tmp} {args args' : List Value} {t t' : Tr Value} {tmps : Array Value}, bindArgs nt ps args t = some t' → RR μ (look t) tmps → tmps.size = nt → VRL μ args args' →
    args'.length = ps.length ∧ RR μ (look t') ((ps.zip args').foldl (fun tmps (x : Tmp × Value) => tmps.setIfInBounds x.1 x.2) tmps) ∧ ((ps.zip args').foldl (fun tmps (x : Tmp × Value) => tmps.setIfInBounds x.1 x.2) tmps).size = nt
  | [], [], _, t, t', tmps, h, hρ, hn, ha => by
    cases ha
    simp only [bindArgs, Option.some.injEq] at h
    subst h
    exact ⟨rfl, hρ, hn⟩
  | p :: ps, v :: vs, _, t, t', tmps, h, hρ, hn, ha => by
    cases ha with
    | cons hv ht =>
      simp only [bindArgs] at h
      cases hp : put nt t (some p) v with
      | none => rw [hp] at h; cases h
      | some t1 =>
        rw [hp] at h
        obtain ⟨h1, h2⟩ := set_sound hp hρ hn hv
        obtain ⟨h3, h4, h5⟩ := bindArgs_sound h h1 h2 ht
        exact ⟨by simp [h3], h4, h5⟩
  | [], _ :: _, _, t, t', tmps, h, _, _, _ => by cases h
  | _ :: _, [], _, t, t', tmps, h, _, _, _ => by cases h

theorem wanted_sound {o : Oper} {ops : Array Oper} {ρ : Nat → Value} {tmps : Array Value} (hρ : RR μ ρ tmps) : Region.wanted o (yielded ops tmps) = wantedA o ops ρ := by
  unfold Region.wanted wantedA
  cases hg : o.guard with
  | none => rfl
  | some q =>
    obtain ⟨j, want⟩ := q
    simp only []
    unfold yielded
    rw [Array.getElem?_toList]
    cases hj : ops[j]? with
    | none => simp
    | some p =>
      simp only [Option.bind_some]
      cases hd : p.dst with
      | none => simp
      | some d =>
        simp only [Option.bind_some]
        have h := hρ d
        rw [Array.getD_eq_getD_getElem?] at h
        cases ht : tmps[d]? with
        | none =>
          rw [ht] at h
          simp only [Option.getD_none] at h
          generalize hu : undef = u at h
          generalize ρ d = x at h
          cases h <;> first | (cases hu; done) | rfl
        | some y =>
          rw [ht] at h
          simp only [Option.getD_some] at h
          generalize ρ d = x at h
          cases h <;> first | rfl | (simp; done) | skip
          -- an opaque value
          rename_i hb
          cases y <;> first | rfl | exact absurd rfl (hb _)

/-! ### What the interpreter's calls and loops come to -/
/-- The widest fence, in a round or outside. -/
def wd (r : Option Nat) : Fence := { Fence.wide with round := r }

theorem wd_calls {r : Option Nat} {n : Nat} {f : FuncId} {args : Array Value} {R : Ending → World → Prop} : CallsIn (wd r) n P f args w R ↔ CallsIn Fence.wide n P f args w R := Iff.rfl

def ER : AExit → Exit → Prop
  | .normal, e => e = .normal
  | .exit id, e => e = .exit id
  | .goto l, e => e = .goto l
  | .ret, e => e = .ret

def DefR (μ : Ren) : List Nat → List Deferred → Prop
  | [], ds => ds = []
  | b :: d, ds => ∃ L r, μ b = some L ∧ ds = { target := .collected L.blk, args := #[] } :: r ∧ DefR μ d r

theorem DefR.mono {μ μ' : Ren} (h : Sub μ μ') : ∀ {d : List Nat} {ds : List Deferred}, DefR μ d ds → DefR μ' d ds
  | [], _, r => r
  | _ :: _, _, ⟨L, r, a, b, c⟩ => ⟨L, r, h.1 _ _ a, b, DefR.mono h c⟩

/-- One of the outcomes. -/
def Post (μ : Ren) (st : St) (w : World) (base nt : Nat) (l : List CRes) : Exit → Act → World → Prop := fun e a' w' =>
  ∃ x ∈ l, ∃ μ', ER x.e e ∧ RR μ' (look x.t) a'.tmps ∧ a'.tmps.size = nt ∧ DefR μ' x.d a'.defers ∧ HR μ' x.s w'.heap base ∧ Ex μ st w μ' x.s w' base

theorem Post.back {μ₁ : Ren} {st₁ : St} {w₁ : World} {nt : Nat} {l l' : List CRes} (h : Ex μ st w μ₁ st₁ w₁ base) (hl : ∀ x ∈ l', x ∈ l) {e : Exit} {a' : Act} {w' : World}
    (hp : Post μ₁ st₁ w₁ base nt l' e a' w') : Post μ st w base nt l e a' w' := by
  obtain ⟨x, hx, μ', a, b, c, d, f, g⟩ := hp
  exact ⟨x, hl x hx, μ', a, b, c, d, f, h.trans g⟩

/-- A call's outcome. -/
def Ret (μ : Ren) (st : St) (w : World) (base : Nat) (l : List RRes) (v' : Value) (w' : World) : Prop :=
  ∃ r ∈ l, ∃ μ', VR μ' r.v v' ∧ HR μ' r.s w'.heap base ∧ Ex μ st w μ' r.s w' base

structure SelfOK (P : Program) (E : Env) (S : Self) (m : Nat) : Prop where
  call : ∀ f args st l, S.call f args st = some l → ∀ (μ : Ren) (w : World) (base : Nat) (args' : Array Value), HR μ st w.heap base → VRL μ args args'.toList →
    CallsIn Fence.wide 0 P f args' w fun e w' => ∃ v', e = .returned v' ∧ Ret μ st w base l v' w'
  code : ∀ ro fn nt c t d st l, S.code ro fn nt c t d st = some l → ∀ (μ : Ren) (w : World) (base : Nat) (a : Act) (r : Option Nat), (ro = none → r = none) → HR μ st w.heap base → RR μ (look t) a.tmps →
    a.tmps.size = nt → DefR μ d a.defers → c.wpIn (wd r) 0 P (Post μ st w base nt l) a w
  loop : ∀ ro fn nt c t d st l, S.code ro fn nt (.loop c) t d st = some l → ∀ (μ : Ren) (w : World) (base : Nat) (a : Act) (r : Option Nat), (ro = none → r = none) → HR μ st w.heap base → RR μ (look t) a.tmps →
    a.tmps.size = nt → DefR μ d a.defers → ∀ Q : Exit → Act → World → Prop, (∀ e a' w', Post μ st w base nt l e a' w' → Q e a' w') → Code.roundsIn (wd r) 0 P c Q m a w

theorem endRoundA_spec {l : Nat} {e : AExit} {x : RRes} (h : endRoundA st l e = some x) : ∃ r h', st.heap.get l = some (.loop r) ∧
    st.heap.set l (.loop { r with state := endState e, pending := jumpOf e }) = some h' ∧ x = { v := .bool (endBool e), s := { st with heap := h' } } := by
  unfold endRoundA at h
  cases hg : st.heap.get l with
  | none => rw [hg] at h; cases h
  | some o =>
    rw [hg] at h
    cases o with
    | loop r =>
      simp only [] at h
      cases hs : st.heap.set l (.loop { r with state := endState e, pending := jumpOf e }) with
      | none => rw [hs] at h; cases h
      | some h' =>
        rw [hs] at h
        simp only [Option.some.injEq] at h
        exact ⟨r, h', rfl, hs, h.symm⟩
    | _ => cases h

/-- A round of a range over a function. -/
theorem roundA_sound {self : Self} {m : Nat} (hS : SelfOK P E self m) (hr : HR μ st w.heap base) {l : Nat} {L : Loc} {args : List Value} {args' : Array Value} {rs : List RRes} (h : roundA self l args st = some rs) (hl : μ l = some L)
    (ha : VRL μ args args'.toList) : ∃ fn' tmps' assign body, (Instr.yield L.blk args').run P w = .ok (.round L.blk fn' tmps' assign body) w ∧
      ∀ r, RoundIn (wd r) 0 P L.blk fn' tmps' assign body w fun e w' => ∃ v', e = .returned v' ∧ Ret μ st w base rs v' w' := by
  unfold roundA at h
  cases hg : st.heap.get l with
  | none => rw [hg] at h; cases h
  | some o =>
    rw [hg] at h
    cases o with
    | loop r =>
      simp only [] at h
      cases hst : r.state with
      | ready =>
        cases hb : bindArgs r.nt r.params args r.tmps with
        | none => rw [hst, hb] at h; cases h
        | some t =>
          rw [hst, hb] at h
          simp only [] at h
          cases hc : self.code (some l) r.fn r.nt r.assign t [] st with
          | none => rw [hc] at h; cases h
          | some xs =>
            rw [hc] at h
            simp only [] at h
            obtain ⟨o', ho', tmps0, defers, ps', fn', rfl, hps, hsz, hρ⟩ := hr.obj l L _ hl hg
            have hcol := collect_spec h
            obtain ⟨b1, b2, b3⟩ := bindArgs_sound hb hρ hsz ha
            have hfold : (ps'.zip args').foldl (fun tmps (x : Tmp × Value) => tmps.setIfInBounds x.1 x.2) tmps0 = (r.params.zip args'.toList).foldl (fun tmps (x : Tmp × Value) => tmps.setIfInBounds x.1 x.2) tmps0 := by
              rw [← Array.foldl_toList, Array.toList_zip, hps]
            refine ⟨fn', (ps'.zip args').foldl (fun tmps (x : Tmp × Value) => tmps.setIfInBounds x.1 x.2) tmps0, r.assign, r.body, ?_, fun r0 => ?_⟩
            · have := run_yield (P := P) (args := args') ho' (by show args'.size = ps'.size; rw [← Array.length_toList, b1, ← hps, Array.length_toList])
              exact this
            · refine roundIn_of_wpIn (F := wd r0) trivial ?_
              have hcode := hS.code _ _ _ _ _ _ _ _ hc μ w base { tmps := (ps'.zip args').foldl (fun tmps (x : Tmp × Value) => tmps.setIfInBounds x.1 x.2) tmps0, defers := [] } (some L.blk) (fun e => by cases e) hr
                (by rw [hfold]; exact b2) (by rw [hfold]; exact b3) rfl
              refine wpIn_mono hcode ?_
              rintro e a1 w1 ⟨x, hx, μ1, e1, e2, e3, e4, e5, e6⟩
              obtain ⟨o1, f1, f2⟩ := hcol x hx
              cases hxe : x.e with
              | normal =>
                rw [hxe] at e1 f1
                have e1' : e = .normal := e1
                subst e1'
                cases hxd : x.d with
                | cons _ _ => rw [hxd] at f1; cases f1
                | nil =>
                  rw [hxd] at f1 e4
                  cases hxg : x.s.heap.get l with
                  | none => rw [hxg] at f1; cases f1
                  | some q =>
                    rw [hxg] at f1
                    cases q with
                    | loop r1 =>
                      simp only [] at f1
                      cases hr1 : r1.state with
                      | ready =>
                        cases hset : x.s.heap.set l (.loop { r1 with state := .busy }) with
                        | none => rw [hr1, hset] at f1; cases f1
                        | some h1 =>
                          rw [hr1, hset] at f1
                          simp only [] at f1
                          cases hb2 : self.code (some l) r.fn r.nt r.body x.t [] { x.s with heap := h1 } with
                          | none => rw [hb2] at f1; cases f1
                          | some ys =>
                            rw [hb2] at f1
                            simp only [] at f1
                            have hcol2 := collect_spec f1
                            have hl1 : μ1 l = some L := e6.sub.1 _ _ hl
                            obtain ⟨o2, ho2, tmps2, defers2, ps2, fn2, rfl, hps2, hsz2, hρ2⟩ := e5.obj l L _ hl1 hxg
                            have hbr := run_beginRound (P := P) ho2 hr1
                            obtain ⟨g1, g2⟩ := HR.setObj e5 (o' := .loop { state := .busy, pending := r1.pending, fn := fn2, tmps := tmps2, params := ps2, assign := r1.assign, body := r1.body, defers := defers2 }) hl1 hxg rfl rfl hset rfl
                              ⟨tmps2, defers2, ps2, fn2, rfl, hps2, hsz2, hρ2⟩
                            refine ⟨_, hbr, ?_⟩
                            have hcode2 := hS.code _ _ _ _ _ _ _ _ hb2 μ1 _ base a1 (some L.blk) (fun e => by cases e) g1 e2 e3 e4
                            refine wpIn_mono hcode2 ?_
                            rintro ee a2 w2 ⟨y, hy, μ2, i1, i2, i3, i4, i5, i6⟩
                            obtain ⟨o3, j1, j2⟩ := hcol2 y hy
                            cases hyd : y.d with
                            | cons _ _ => rw [hyd] at j1; cases j1
                            | nil =>
                              rw [hyd] at j1
                              simp only [] at j1
                              cases hend : endRoundA y.s l y.e with
                              | none => rw [hend] at j1; cases j1
                              | some z =>
                                rw [hend] at j1
                                simp only [oneR, Option.some.injEq] at j1
                                subst j1
                                obtain ⟨r3, h3, k1, k2, rfl⟩ := endRoundA_spec hend
                                have hl2 : μ2 l = some L := i6.sub.1 _ _ hl1
                                obtain ⟨o4, ho4, tmps4, defers4, ps4, fn4, rfl, hps4, hsz4, hρ4⟩ := i5.obj l L _ hl2 k1
                                obtain ⟨q1, q2⟩ := HR.setObj i5 (o' := .loop { state := endState y.e, pending := jumpOf y.e, fn := fn4, tmps := tmps4, params := ps4, assign := r3.assign, body := r3.body, defers := defers4 }) hl2 k1 rfl rfl k2 rfl
                                  ⟨tmps4, defers4, ps4, fn4, rfl, hps4, hsz4, hρ4⟩
                                have hall : Ex μ st w μ2 _ _ base := (e6.trans g2).trans (i6.trans q2)
                                have hmem := f2 _ (j2 _ (List.mem_singleton.2 rfl))
                                have hret : Ret μ st w base rs (.bool (endBool y.e)) _ := ⟨_, hmem, μ2, .bool _, q1, hall⟩
                                have hrun := run_endRound (P := P) (jumpOf y.e) ho4
                                cases hye : y.e with
                                | normal =>
                                  rw [hye] at i1 hrun hret
                                  have : ee = .normal := i1
                                  subst this
                                  exact ⟨_, _, hrun, _, rfl, hret⟩
                                | exit id =>
                                  rw [hye] at i1 hrun hret
                                  have : ee = .exit id := i1
                                  subst this
                                  exact ⟨_, _, hrun, _, rfl, hret⟩
                                | goto g =>
                                  rw [hye] at i1 hrun hret
                                  have : ee = .goto g := i1
                                  subst this
                                  exact ⟨_, _, hrun, _, rfl, hret⟩
                                | ret =>
                                  rw [hye] at i1 hrun hret
                                  have : ee = .ret := i1
                                  subst this
                                  exact ⟨_, _, hrun, _, rfl, hret⟩
                      | _ => cases hset : x.s.heap.set l (.loop { r1 with state := .busy }) <;> rw [hr1, hset] at f1 <;> cases f1
                    | _ => cases f1
              | _ => rw [hxe] at f1; cases f1
      | _ => cases hb : bindArgs r.nt r.params args r.tmps <;> rw [hst, hb] at h <;> cases h
    | _ => cases h

/-- One operation, with what it calls. -/
theorem operA_sound (hE : EnvOK P E) {self : Self} {m : Nat} (hS : SelfOK P E self m) (hr : HR μ st w.heap base) {ρ : Nat → Value} {a : Act} (hρ : RR μ ρ a.tmps) {o : Oper} {l : List RRes} (h : operA E self ρ st o = some l) {r : Option Nat}
    {K : Act → World → Prop} {Q : Exit → Act → World → Prop} (hK : ∀ v' w', Ret μ st w base l v' w' → K (a.put o.dst v') w') : o.wpIn (wd r) 0 P a w K Q := by
  have hdep : (wd r).depth.isSome = true → 1 ≤ 0 := fun e => by cases e
  have main : ∀ (res : ORes) (st' : St), execA E ρ st o.op = some (res, st') → (match res with
      | .val v => some [({ v := v, s := st' } : RRes)]
      | .enter f args => self.call f args st'
      | .round b args => roundA self b args st') = some l → o.wpIn (wd r) 0 P a w K Q := by
    intro res st' he hl
    have hd : ∀ c, o.op ≠ .defer c := fun c e => by rw [e] at he; cases he
    have hs := execA_sound hE hr hρ he
    refine ⟨fun _ _ => trivial, ?_⟩
    rw [Oper.semAt_eq _ _ _ hd]
    cases res with
    | val v =>
      simp only [Option.some.injEq] at hl
      subst hl
      obtain ⟨v', w', μ', hrun, h1, h2, h3⟩ := hs
      have hret : Ret μ st w base [({ v := v, s := st' } : RRes)] v' w' := ⟨_, List.mem_singleton.2 rfl, μ', h1, h2, h3⟩
      rcases hrun with hrun | ⟨hrun, rfl⟩
      · rw [hrun, Oper.uponIn_value]; exact hK _ _ hret
      · rw [hrun, Oper.uponIn_skip]; exact hK _ _ hret
    | enter f args =>
      obtain ⟨rfl, args', hrun, ha⟩ := hs
      rw [hrun, Oper.uponIn_enter]
      refine ⟨hdep, ?_⟩
      refine CallsIn.mono (wd_calls.2 (hS.call _ _ _ _ hl μ w base args' hr ha)) ?_
      rintro e w' ⟨v', rfl, hret⟩
      exact hK _ _ hret
    | round b args =>
      obtain ⟨rfl, L, args', hL, ha, hrun⟩ := hs
      obtain ⟨fn', tmps', assign, body, g1, g2⟩ := roundA_sound hS hr hl hL ha
      rw [hrun, g1, Oper.uponIn_round]
      refine ⟨hdep, ?_⟩
      refine (g2 r).mono ?_
      rintro e w' ⟨v', rfl, hret⟩
      exact hK _ _ hret
  have gen : (∀ it s, o.op ≠ .next it s) → (match execA E ρ st o.op with
      | some (.val v, st') => some [({ v := v, s := st' } : RRes)]
      | some (.enter f args, st') => self.call f args st'
      | some (.round b args, st') => roundA self b args st'
      | none => none) = some l → o.wpIn (wd r) 0 P a w K Q := by
    intro _ h
    cases he : execA E ρ st o.op with
    | none => rw [he] at h; cases h
    | some q =>
      obtain ⟨res, st'⟩ := q
      rw [he] at h
      exact main res st' he (by cases res <;> exact h)
  have fk : ∀ l', forkA E ρ st o.op = some l' → l' = l → o.wpIn (wd r) 0 P a w K Q := by
    intro l' hf e
    subst e
    obtain ⟨x, hx, v', w', μ', hrun, h1, h2, h3⟩ := forkA_sound hE hr hρ hf
    have hd : ∀ c, o.op ≠ .defer c := fun c e => by rw [e] at hf; cases hf
    refine ⟨fun _ _ => trivial, ?_⟩
    rw [Oper.semAt_eq _ _ _ hd]
    have hret : Ret μ st w base l' v' w' := ⟨_, hx, μ', h1, h2, h3⟩
    rcases hrun with hrun | ⟨hrun, rfl⟩
    · rw [hrun, Oper.uponIn_value]; exact hK _ _ hret
    · rw [hrun, Oper.uponIn_skip]; exact hK _ _ hret
  unfold operA at h
  cases hop : o.op with
  | next it s =>
    rw [hop] at h
    simp only [] at h
    cases hi : opd ρ it with
    | none => rw [hi] at h; cases h
    | some iv =>
      rw [hi] at h
      simp only [] at h
      cases hn : nextA st iv s with
      | none => rw [hn] at h; cases h
      | some ls =>
        rw [hn] at h
        simp only [Option.some.injEq] at h
        subst h
        obtain ⟨v', w', hrun, x, hx, h1, h2, h3⟩ := next_sound (P := P) (ty := o.type) hr hn (opd_sound hρ hi)
        refine ⟨fun _ _ => trivial, ?_⟩
        rw [Oper.semAt_eq _ _ _ (fun c e => by rw [hop] at e; cases e)]
        have hrun2 : (execOp a.eval o).run P w = .ok (.value v') w' := by
          unfold execOp; rw [hop]
          simp only [Sem.run_bind, hrun, Result.andThen_ok, Sem.run_pure]
        rw [hrun2, Oper.uponIn_value]
        exact hK _ _ ⟨_, List.mem_map.2 ⟨x, hx, rfl⟩, μ, h1, h2, h3⟩
  | _ =>
    rw [hop] at h
    have h2 : (match forkA E ρ st o.op with
      | some l => some l
      | none => match execA E ρ st o.op with
        | some (.val v, st') => some [({ v := v, s := st' } : RRes)]
        | some (.enter f args, st') => self.call f args st'
        | some (.round b args, st') => roundA self b args st'
        | none => none) = some l := by rw [hop]; exact h
    cases hfk : forkA E ρ st o.op with
    | some l' =>
      rw [hfk] at h2
      simp only [Option.some.injEq] at h2
      exact fk l' hfk h2
    | none =>
      rw [hfk] at h2
      exact gen (fun it s e => by rw [hop] at e; cases e) h2

/-- Operations in the order of the text. -/
theorem runOps_sound (hE : EnvOK P E) {self : Self} {m : Nat} (hS : SelfOK P E self m) {ops : Array Oper} {nt : Nat} {defs : List Nat} {r : Option Nat} {Q : Exit → Act → World → Prop} :
    ∀ (rest : List Oper) (i : Nat) (t : Tr Value) (st : St) (l : List CRes), ops.toList.drop i = rest → runOps E self nt ops defs rest t st = some l → ∀ (μ : Ren) (w : World) (a : Act), HR μ st w.heap base → RR μ (look t) a.tmps → a.tmps.size = nt →
      DefR μ defs a.defers → (∀ e a' w', Post μ st w base nt l e a' w' → Q e a' w') → wpOpsIn (wd r) 0 P ops Q (List.range' i rest.length) a w := by
  intro rest
  induction rest with
  | nil =>
    intro i t st l _ h μ w a hr hρ hn hd hQ
    simp only [runOps, Option.some.injEq] at h
    subst h
    exact hQ _ _ _ ⟨_, List.mem_singleton.2 rfl, μ, rfl, hρ, hn, hd, hr, Ex.refl _ _ _ _⟩
  | cons o rest ih =>
    intro i t st l hdrop h μ w a hr hρ hn hd hQ
    have hi : ops[i]? = some o := by
      rw [← Array.getElem?_toList]
      have : (ops.toList.drop i)[0]? = some o := by rw [hdrop]; rfl
      simpa using this
    have hdrop' : ops.toList.drop (i + 1) = rest := by
      have : (ops.toList.drop i).drop 1 = rest := by rw [hdrop]; rfl
      rw [List.drop_drop] at this
      exact this
    rw [List.length_cons, List.range'_succ]
    simp only [wpOpsIn, hi]
    simp only [runOps] at h
    rw [wanted_sound hρ]
    cases hw : wantedA o ops (look t) with
    | true =>
      rw [hw] at h
      simp only [cond_true] at h
      rw [if_pos rfl]
      cases hop : operA E self (look t) st o with
      | none => rw [hop] at h; cases h
      | some ls =>
        rw [hop] at h
        simp only [] at h
        have hcol := collect_spec h
        refine operA_sound hE hS hr hρ hop ?_
        rintro v' w' ⟨x, hx, μ', g1, g2, g3⟩
        obtain ⟨out, f1, f2⟩ := hcol x hx
        cases hp : put nt t o.dst x.v with
        | none => rw [hp] at f1; cases f1
        | some t1 =>
          rw [hp] at f1
          simp only [] at f1
          obtain ⟨p1, p2, p3⟩ := put_sound hp (hρ.mono g3.sub) hn g1
          refine ih (i + 1) t1 x.s out hdrop' f1 μ' w' _ g2 p1 p2 (by rw [p3]; exact hd.mono g3.sub) ?_
          intro e a' w2 hpost
          exact hQ _ _ _ (Post.back g3 f2 hpost)
    | false =>
      rw [hw] at h
      simp only [cond_false] at h
      rw [if_neg (by simp)]
      refine ⟨fun _ _ => trivial, ?_⟩
      cases hp : put nt t o.dst undefV with
      | none => rw [hp] at h; cases h
      | some t1 =>
        rw [hp] at h
        obtain ⟨p1, p2, p3⟩ := put_sound (v' := undef) hp hρ hn VR.unit
        exact ih (i + 1) t1 st l hdrop' h μ w _ hr p1 p2 (by rw [p3]; exact hd) hQ

end
end Go.Det
