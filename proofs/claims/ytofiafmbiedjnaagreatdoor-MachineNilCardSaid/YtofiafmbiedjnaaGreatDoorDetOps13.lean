/- Conversions, what the runtime's own functions do, and the rest of the built-in functions. -/
import Derived.Lib.Bytealg
import Derived.Test.YtofiafmbiedjnaaGreatDoorDetOps12
set_option autoImplicit false
namespace Go.Det

theorem beq_false {a b : Nat} (h : (!Nat.beq a b) = true) : a ≠ b := by
  intro e
  subst e
  simp at h

section
variable {P : Program} {E : Env} {μ : Ren} {st : St} {w : World} {base : Nat}

theorem convert_mk (hE : EnvOK P E) {s d : TypeId} {x v : Value} {st' : St} (hk : kindConv E s d = .makes) (h : convertA E st s d x = some (v, st')) :
    ∃ o, Lays st o st' ∧ isLive o = true ∧ ∀ (μ : Ren) (w : World) (x' : Value), VR μ x x' → Mk P μ w (convert s d x') v st.next o := by
  unfold kindConv at hk
  unfold convertA at h
  cases hi : E.ti.get s with
  | none => rw [hi] at h; cases h
  | some i =>
    cases hj : E.ti.get d with
    | none => rw [hi, hj] at h; cases h
    | some j =>
      rw [hi, hj] at h hk
      simp only [] at h hk
      have hs := hE.und s i hi
      have hd := hE.und d j hj
      cases hju : j.und with
      | slice e =>
        rw [hju] at h hk hd
        simp only [] at h
        cases x with
        | slice a0 len cap =>
          exfalso
          cases a0 with
          | none => cases h
          | some a0 => cases hiu : i.und <;> rw [hiu] at h hk <;> first | (cases hk; done) | (cases h; done)
        | string q =>
          simp only [] at h
          cases he : E.ti.get e with
          | none => rw [he] at h; cases h
          | some ei =>
            rw [he] at h
            simp only [] at h
            cases heu : ei.und with
            | int k =>
              rw [heu] at h
              cases k with
              | u8 =>
                obtain ⟨o, h1, h2, h3⟩ := conv_bytes (P := P) hE hd he heu hs h
                exact ⟨o, h1, h2, fun μ w x' hx => by cases hx; exact h3 μ w⟩
              | _ => cases h
            | _ => rw [heu] at h; cases h
        | _ => cases h
      | _ => rw [hju] at hk; cases hiu : i.und <;> rw [hiu] at hk <;> cases hk

theorem convert_sound (hE : EnvOK P E) (hr : HR μ st w.heap base) {s d : TypeId} {x x' v : Value} {st' : St} (h : convertA E st s d x = some (v, st')) (hx : VR μ x x') : Snd P μ st w base (convert s d x') v st' := by
  unfold convertA at h
  cases hi : E.ti.get s with
  | none => rw [hi] at h; cases h
  | some i =>
    cases hj : E.ti.get d with
    | none => rw [hi, hj] at h; cases h
    | some j =>
      rw [hi, hj] at h
      simp only [] at h
      have hs := hE.und s i hi
      have hd := hE.und d j hj
      cases hju : j.und with
      | int k =>
        rw [hju] at h hd
        cases hx with
        | int k' n =>
          simp only [Option.some.injEq, Prod.mk.injEq] at h
          obtain ⟨rfl, rfl⟩ := h
          exact Pur.snd ⟨_, conv_int hs hd, .int _ _⟩ hr
        | _ => cases h
      | string =>
        rw [hju] at h hd
        cases x with
        | string q =>
          simp only [Option.some.injEq, Prod.mk.injEq] at h
          obtain ⟨rfl, rfl⟩ := h
          cases hx
          exact Pur.snd ⟨_, conv_str hs hd, .string _⟩ hr
        | slice a len cap =>
          simp only [] at h
          cases hiu : i.und with
          | slice e =>
            rw [hiu] at h hs
            simp only [] at h
            cases he : E.ti.get e with
            | none => rw [he] at h; cases h
            | some ei =>
              rw [he] at h
              simp only [] at h
              cases heu : ei.und with
              | int k =>
                rw [heu] at h
                cases k with
                | u8 =>
                  simp only [] at h
                  split at h
                  · rename_i v0 hv0
                    simp only [Option.some.injEq, Prod.mk.injEq] at h
                    obtain ⟨rfl, rfl⟩ := h
                    exact (conv_string hE hr hs hd he heu hx hv0).snd hr
                  · cases h
                | _ => cases h
              | _ => rw [heu] at h; cases h
          | _ => rw [hiu] at h; cases h
        | _ => cases h
      | unsafePointer =>
        rw [hju] at h hd
        cases hx with
        | ptr b o L hb =>
          simp only [] at h
          cases hiu : i.und with
          | pointer e =>
            rw [hiu] at h hs
            simp only [] at h
            cases he : E.ti.get e with
            | none => rw [he] at h; cases h
            | some ei =>
              cases hg : st.heap.get b with
              | none => rw [he, hg] at h; cases h
              | some ob =>
                rw [he, hg] at h
                cases ob with
                | cells n c sz el op fz k =>
                  simp only [] at h
                  cases hc : (!Nat.beq ei.size 0 && Nat.blt o n) with
                  | false => rw [hc] at h; cases h
                  | true =>
                    rw [hc] at h
                    simp only [cond_true, Option.some.injEq, Prod.mk.injEq] at h
                    obtain ⟨rfl, rfl⟩ := h
                    rw [Bool.and_eq_true] at hc
                    have hz := beq_false hc.1
                    have hlt : o < n := by simpa [Nat.blt_eq] using hc.2
                    obtain ⟨o', ho', hR⟩ := hr.obj b L _ hb hg
                    cases o' with
                    | cells c' el' fz' =>
                      obtain ⟨r1, r2, r3, r4, r5, r6⟩ := hR
                      exact Pur.snd ⟨_, conv_toUnsafe hE hs hd he hz (a := ⟨L.blk, L.off + o, none⟩) ho' (by simp only []; omega), .ptr b o L hb⟩ hr
                    | _ => exact hR.elim
                | _ => cases h
          | _ => rw [hiu] at h; cases h
        | _ => cases h
      | pointer e =>
        rw [hju] at h hd
        cases hx with
        | ptr b o L hb =>
          simp only [] at h
          cases hiu : i.und with
          | unsafePointer =>
            rw [hiu] at h hs
            simp only [] at h
            cases he : E.ti.get e with
            | none => rw [he] at h; cases h
            | some ei =>
              cases hg : st.heap.get b with
              | none => rw [he, hg] at h; cases h
              | some ob =>
                rw [he, hg] at h
                cases ob with
                | cells n c sz el op fz k =>
                  cases op with
                  | true => cases h
                  | false =>
                    simp only [] at h
                    cases hel : E.ti.get el with
                    | none => rw [hel] at h; cases h
                    | some li =>
                      rw [hel] at h
                      simp only [] at h
                      cases hc : (Nat.beq n li.size && (!Nat.beq n 0 && (!Nat.beq ei.size 0 && E.lies.contains (el, o, e)))) with
                      | false => rw [hc] at h; cases h
                      | true =>
                        rw [hc] at h
                        simp only [cond_true, Option.some.injEq, Prod.mk.injEq] at h
                        obtain ⟨rfl, rfl⟩ := h
                        rw [Bool.and_eq_true, Bool.and_eq_true, Bool.and_eq_true] at hc
                        have hn := Nat.eq_of_beq_eq_true hc.1
                        have hn0 := beq_false hc.2.1
                        have hz := beq_false hc.2.2.1
                        have hl : (el, o, e) ∈ E.lies := by simpa using hc.2.2.2
                        obtain ⟨o', ho', hR⟩ := hr.obj b L _ hb hg
                        cases o' with
                        | cells c' el' fz' =>
                          obtain ⟨r1, r2, r3, r4, r5, r6⟩ := hR
                          obtain ⟨q1, q2, q3⟩ := r3 rfl
                          subst q3
                          refine Pur.snd ⟨_, conv_fromUnsafe hE hs hd he hz (a := ⟨L.blk, L.off + o, none⟩) ho' ?_, .ptr b o L hb⟩ hr
                          have hcs : c'.size / P.cellsOf el' = 1 := by
                            rw [cellsOf_size hE hel, r1, q2, q1, ← hn, Nat.zero_add]
                            exact Nat.div_self (by omega)
                          rw [hcs, q2, Nat.zero_add]
                          exact hE.lies _ _ _ hl
                        | _ => exact hR.elim
                | _ => cases h
          | _ => rw [hiu] at h; cases h
        | _ => cases h
      | slice e =>
        rw [hju] at h hd
        simp only [] at h
        cases x with
        | slice a0 len cap =>
          cases hx with
          | snil => cases h
          | slice b o L _ _ o' cap' hb hsl =>
            simp only [] at h
            cases hiu : i.und with
            | slice e0 =>
              rw [hiu] at h hs
              cases he : E.ti.get e with
              | none => rw [he] at h; cases h
              | some ei =>
                rw [he] at h
                simp only [] at h
                cases heu : ei.und with
                | int k =>
                  rw [heu] at h
                  cases k with
                  | u8 =>
                    simp only [] at h
                    cases hg : st.heap.get b with
                    | none => rw [hg] at h; cases h
                    | some ob =>
                      rw [hg] at h
                      cases ob with
                      | cells n c sz el op fz k =>
                        simp only [] at h
                        cases hsd : Nat.beq s d with
                        | false => rw [hsd] at h; cases h
                        | true =>
                          rw [hsd] at h
                          simp only [cond_true, Option.some.injEq, Prod.mk.injEq] at h
                          obtain ⟨rfl, rfl⟩ := h
                          obtain ⟨ob', ho', hR⟩ := hr.obj b L _ hb hg
                          cases ob' with
                          | cells c' el' fz' =>
                            obtain ⟨m1, m2, m3⟩ := mark_sound (P := P) hr hb ho' o'
                            have heu' := hE.und e ei he
                            rw [heu] at heu'
                            exact ⟨_, _, μ, conv_slices hs hd heu' (Nat.eq_of_beq_eq_true hsd) m1, .slice b o L _ _ _ _ hb hsl, m2, m3⟩
                          | _ => exact hR.elim
                      | _ => cases h
                  | _ => cases h
                | _ => rw [heu] at h; cases h
            | _ => rw [hiu] at h; cases h
        | string q =>
          simp only [] at h
          cases he : E.ti.get e with
          | none => rw [he] at h; cases h
          | some ei =>
            rw [he] at h
            simp only [] at h
            cases heu : ei.und with
            | int k =>
              rw [heu] at h
              cases k with
              | u8 =>
                obtain ⟨o, h1, h2, h3⟩ := conv_bytes (P := P) hE hd he heu hs h
                cases hx
                exact (h3 μ w).snd hr h1
              | _ => cases h
            | _ => rw [heu] at h; cases h
        | _ => cases h
      | _ => rw [hju] at h; cases h

theorem conv_pure {E : Env} {st st' : St} {s d : TypeId} {x v : Value} (hk : kindConv E s d = .pure) (h : convertA E st s d x = some (v, st')) : st' = st ∧ ∀ s2, convertA E s2 s d x = some (v, s2) := by
  unfold kindConv at hk
  unfold convertA at h ⊢
  cases hi : E.ti.get s with
  | none => rw [hi] at h; cases h
  | some i =>
    cases hj : E.ti.get d with
    | none => rw [hi, hj] at h; cases h
    | some j =>
      rw [hi, hj] at h hk
      simp only [] at h hk ⊢
      cases hju : j.und with
      | int k =>
        rw [hju] at h
        cases x with
        | int k' n =>
          simp only [Option.some.injEq, Prod.mk.injEq] at h
          exact ⟨h.2.symm, fun s2 => by simp [h.1]⟩
        | _ => cases h
      | string =>
        rw [hju] at h hk
        cases x with
        | string q =>
          simp only [Option.some.injEq, Prod.mk.injEq] at h
          exact ⟨h.2.symm, fun s2 => by simp [h.1]⟩
        | slice a len cap =>
          exfalso
          cases hiu : i.und <;> rw [hiu] at h hk <;> first | (cases h; done) | (cases hk; done)
        | _ => cases h
      | _ => rw [hju] at hk; cases hiu : i.und <;> rw [hiu] at hk <;> cases hk

theorem conv_reads {E : Env} {st st' : St} {s d : TypeId} {x v : Value} (hk : kindConv E s d = .reads) (h : convertA E st s d x = some (v, st')) : st' = st := by
  unfold kindConv at hk
  unfold convertA at h
  cases hi : E.ti.get s with
  | none => rw [hi] at h; cases h
  | some i =>
    cases hj : E.ti.get d with
    | none => rw [hi, hj] at h; cases h
    | some j =>
      rw [hi, hj] at h hk
      simp only [] at h hk
      cases hju : j.und with
      | string =>
        rw [hju] at h hk
        cases x with
        | string q =>
          simp only [Option.some.injEq, Prod.mk.injEq] at h
          exact h.2.symm
        | slice a len cap =>
          simp only [] at h
          cases hiu : i.und with
          | slice e =>
            rw [hiu] at h
            simp only [] at h
            cases he : E.ti.get e with
            | none => rw [he] at h; cases h
            | some ei =>
              rw [he] at h
              simp only [] at h
              cases heu : ei.und with
              | int k =>
                rw [heu] at h
                cases k with
                | u8 =>
                  simp only [] at h
                  split at h
                  · simp only [Option.some.injEq, Prod.mk.injEq] at h
                    exact h.2.symm
                  · cases h
                | _ => cases h
              | _ => rw [heu] at h; cases h
          | _ => rw [hiu] at h; cases h
        | _ => cases h
      | _ => rw [hju] at hk; cases hiu : i.und <;> rw [hiu] at hk <;> cases hk

theorem len_pure {E : Env} {st s2 : St} {c : Call} {args : List Value} {u : Value} (hk : kindCall E c = .pure) (hc : c.callee = .builtin .len) (h : lenOp E st c.argTypes args = some u) : lenOp E s2 c.argTypes args = some u := by
  unfold kindCall at hk
  rw [hc] at hk
  simp only [] at hk
  unfold lenOp at h ⊢
  cases hts : c.argTypes.toList with
  | nil => rw [hts] at h; cases h
  | cons t r =>
    rw [hts] at h hk
    cases args with
    | nil => cases h
    | cons x xr =>
      simp only [] at h hk ⊢
      cases hi : E.ti.get t with
      | none => rw [hi] at h; cases h
      | some i =>
        rw [hi] at h hk
        simp only [] at h hk ⊢
        cases hu : i.und <;> rw [hu] at h hk <;> first
          | (cases hk; done)
          | (cases x <;> first | exact h | (cases h; done))

theorem cap_sound (hE : EnvOK P E) (hr : HR μ st w.heap base) {ts : Array TypeId} {ty : TypeId} {args : List Value} {args' : Array Value} {v : Value} {st' : St} (h : builtinA E st .cap ts args = some (v, st')) (ha : VRL μ args args'.toList) :
    Snd P μ st w base (Builtin.cap_ ts ty args') v st' := by
  simp only [builtinA] at h
  split at h
  · rename_i t tr a len c xr hts
    have ht0 : ts[0]? = some t := by rw [← Array.getElem?_toList, hts]; rfl
    generalize hargs : args'.toList = la at ha
    cases ha with
    | cons hx hxr =>
      rename_i x' r'
      have ha0 : args'[0]? = some x' := by rw [← Array.getElem?_toList, hargs]; rfl
      cases hi : E.ti.get t with
      | none => rw [hi] at h; cases h
      | some i =>
        rw [hi] at h
        simp only [] at h
        have hund := hE.run_und hi w
        cases hu : i.und with
        | slice e =>
          rw [hu] at h hund
          simp only [] at h
          split at h
          · rename_i hlt
            simp only [Option.some.injEq, Prod.mk.injEq] at h
            obtain ⟨rfl, rfl⟩ := h
            refine Pur.snd ⟨.int .i64 c, ?_, .int _ _⟩ hr
            cases hx with
            | snil => simp [Builtin.cap_, ht0, ha0, hund, goInt]
            | slice b o L _ _ o' cap' hb hs =>
              have := (hs.2.1 hlt).1
              subst this
              simp [Builtin.cap_, ht0, ha0, hund, goInt]
          · rename_i hnlt
            cases hx with
            | snil => simp at h
            | slice b o L _ _ o' cap' hb hs =>
              simp only [] at h
              split at h
              · rename_i n cs sz el fz k _ hcell
                split at h
                · rename_i hc
                  simp only [Option.some.injEq, Prod.mk.injEq] at h
                  obtain ⟨rfl, rfl⟩ := h
                  obtain ⟨ob, hob, hR⟩ := hr.obj b L _ hb hcell
                  cases ob with
                  | cells a1 el' fz' =>
                    have hnr : n ≤ L.room := hR.2.1
                    have hsz : L.sz = sz := hR.2.2.2.1.1
                    refine Pur.snd ⟨.int .i64 cap', by simp [Builtin.cap_, ht0, ha0, hund, goInt], .low _ _ _ ?_⟩ hr
                    have hle : (n - o) / sz ≤ cap' := by
                      have h1 : o + sz ≤ n := hc.2
                      rcases hs.2.2 (by omega) with ⟨g1, g2⟩ | ⟨g1, g2, g3⟩
                      · rw [hsz] at g2
                        have h2 : n - o ≤ cap' * sz := by omega
                        exact Nat.div_le_of_le_mul (by rw [Nat.mul_comm]; exact h2)
                      · exfalso; have := hc.1; omega
                    exact Int.ofNat_le.2 hle
                  | _ => exact hR.elim
                · cases h
              · cases h
        | _ => rw [hu] at h; cases h
  · cases h

theorem sliceData_sound (hr : HR μ st w.heap base) {ts : Array TypeId} {ty : TypeId} {args : List Value} {args' : Array Value} {v : Value} {st' : St} (h : builtinA E st .unsafeSliceData ts args = some (v, st')) (ha : VRL μ args args'.toList) :
    Snd P μ st w base (Builtin.unsafeSliceData_ ts ty args') v st' := by
  simp only [builtinA] at h
  split at h
  · rename_i l c
    simp only [Option.some.injEq, Prod.mk.injEq] at h
    obtain ⟨rfl, rfl⟩ := h
    generalize hargs : args'.toList = la at ha
    cases ha with
    | cons hx hxr =>
      cases hxr
      rename_i x'
      have : args' = #[x'] := by rw [← Array.toList_inj, hargs]
      subst this
      cases hx
      exact Pur.snd ⟨.pointer none, rfl, .pnil⟩ hr
  · rename_i a l c
    cases l with
    | zero => cases h
    | succ l =>
      simp only [Option.some.injEq, Prod.mk.injEq] at h
      obtain ⟨rfl, rfl⟩ := h
      generalize hargs : args'.toList = la at ha
      cases ha with
      | cons hx hxr =>
        cases hxr
        rename_i x'
        have : args' = #[x'] := by rw [← Array.toList_inj, hargs]
        subst this
        cases hx with
        | slice b o L _ _ o' cap' hb hs =>
          have hpos : 0 < cap' := by have := hs.1; omega
          have hoff := hs.off_eq hpos
          subst hoff
          have hne : cap' ≠ 0 := by omega
          exact Pur.snd ⟨.pointer (some ⟨L.blk, L.off + o, none⟩), by show Sem.run P (if cap' ≠ 0 then _ else _) w = _; rw [if_pos hne]; rfl, .ptr b o L hb⟩ hr
  · cases h

theorem depth_pos (P : Program) : ∃ d, P.depth = d + 2 := ⟨2 * (P.types.size + Made.depth), rfl⟩

theorem lies_bytes (hE : EnvOK P E) {e : TypeId} {ei : TI} (he : E.ti.get e = some ei) (hz : ei.size = 1) {n off m : Nat} (h : off + m ≤ n) : liesAt P P.depth e (n / P.cellsOf e) off e m = true := by
  obtain ⟨d, hd⟩ := depth_pos P
  have hc : P.cellsOf e = 1 := by rw [cellsOf_size hE he, hz]
  rw [hd]
  simp only [liesAt, Bool.or_eq_true]
  left
  rw [hd]
  simp only [rowAt, hc]
  have hs : sameLayout P (d + 2) e e = true := by simp [sameLayout]
  simp [hs, Nat.mod_one, Nat.div_one, h]

theorem freeze_put {B o n : Nat} {c : Array Value} {el : TypeId} {fz : Nat × Nat} (hB : w.heap[B]? = some (.cells c el fz)) (hn : n ≠ 0) :
    ∃ fz', w.freeze ⟨B, o, none⟩ n = w.putObj B (.cells c el fz') := by
  obtain ⟨lo, hi⟩ := fz
  refine ⟨if lo == hi then (o, o + n) else (min lo o, max hi (o + n)), ?_⟩
  have hlt : B < w.heap.size := by
    rcases Nat.lt_or_ge B w.heap.size with g | g
    · exact g
    · rw [Array.getElem?_eq_none g] at hB; cases hB
  have hv : w.heap[B] = .cells c el (lo, hi) := by rw [Array.getElem?_eq_getElem hlt] at hB; exact Option.some.inj hB
  unfold World.freeze World.putObj
  rw [if_neg hn]
  congr 1
  apply Array.ext_getElem?
  intro i
  by_cases e : B = i
  · subst e
    rw [Array.getElem?_modify]
    simp [hlt, hv]
  · rw [Array.getElem?_setIfInBounds_ne e, Array.getElem?_modify]
    simp [e]

theorem freeze_sound (hr : HR μ st w.heap base) {b : Nat} {L : Loc} {st' : St} (hb : μ b = some L) (h : freezeA st b = some st') (o n : Nat) (hn : n ≠ 0) :
    HR μ st' (w.freeze ⟨L.blk, o, none⟩ n).heap base ∧ Ex μ st w μ st' (w.freeze ⟨L.blk, o, none⟩ n) base := by
  unfold freezeA at h
  cases hg : st.heap.get b with
  | none => rw [hg] at h; cases h
  | some ob =>
    rw [hg] at h
    cases ob with
    | cells m c sz el op fz cls =>
      simp only [] at h
      cases hk : st.kill b cls with
      | none => rw [hk] at h; cases h
      | some st1 =>
        rw [hk] at h
        simp only [] at h
        cases hs : st1.heap.set b (.cells m c sz el op true cls) with
        | none => rw [hs] at h; cases h
        | some hp =>
          rw [hs] at h
          simp only [Option.some.injEq] at h
          subst h
          obtain ⟨hr1, hself, hlone, hghost, hnext⟩ := hr.kill hk hg rfl
          obtain ⟨o', ho', hR⟩ := hr.obj b L _ hb hg
          cases o' with
          | cells c' el' fz' =>
            obtain ⟨fz2, hf⟩ := freeze_put (o := o) (n := n) ho' hn
            obtain ⟨r1, r2, r3, r4, r5, r6⟩ := hR
            rw [hf]
            refine ⟨hr1.turn hb hself hs (.inl rfl) (fun d M q hM hq lq hne => hlone d L M q hb hM hq lq hne) ⟨r1, r2, r3, r4, r5, fun g => by cases g⟩, ⟨Sub.refl _, fun g hg' hm => ⟨hm, ?_⟩, by simp [hnext], fun B hB => ?_, by simp, rfl, rfl⟩⟩
            · have hgb : g ≠ b := fun e => by rw [e, hb] at hm; cases hm
              show hp.get g = _
              rw [Tr.get_set_ne hs hgb]
              exact hghost g hg' hm
            · have := (hr.inn b L hb).1
              exact World.putObj_heap_other (by omega)
          | _ => exact hR.elim
    | _ => cases h

theorem unsafeString_sound (hE : EnvOK P E) (hr : HR μ st w.heap base) {ts : Array TypeId} {ty : TypeId} {args : List Value} {args' : Array Value} {v : Value} {st' : St} (h : builtinA E st .unsafeString ts args = some (v, st')) (ha : VRL μ args args'.toList) :
    Snd P μ st w base (Builtin.unsafeString_ ts ty args') v st' := by
  simp only [builtinA] at h
  split at h
  · rename_i t tr p k n hts
    have ht0 : ts[0]? = some t := by rw [← Array.getElem?_toList, hts]; rfl
    generalize hargs : args'.toList = la at ha
    cases ha with
    | cons hp ha2 =>
      rename_i p' r'
      cases ha2 with
      | cons hn ha3 =>
        cases ha3
        cases hn
        have : args' = #[p', .int k n] := by rw [← Array.toList_inj, hargs]
        subst this
        have hmax : IntKind.i64.max = 9223372036854775807 := by decide
        cases hp with
        | pnil =>
          simp only [] at h
          split at h
          · rename_i hn0
            subst hn0
            simp only [Option.some.injEq, Prod.mk.injEq] at h
            obtain ⟨rfl, rfl⟩ := h
            exact Pur.snd ⟨.string .empty, by show Sem.run P (Bind.bind (asInt (.int k 0)) _) w = _; simp [Sem.run_bind, asInt, asIntOf, ht0, hmax], .string _⟩ hr
          · cases h
        | ptr b o L hb =>
          simp only [] at h
          split at h
          · rename_i hn0
            subst hn0
            simp only [Option.some.injEq, Prod.mk.injEq] at h
            obtain ⟨rfl, rfl⟩ := h
            exact Pur.snd ⟨.string .empty, by show Sem.run P (Bind.bind (asInt (.int k 0)) _) w = _; simp [Sem.run_bind, asInt, asIntOf, ht0, hmax], .string _⟩ hr
          · rename_i hn0
            split at h
            · cases h
            · rename_i hneg
              cases hi : E.ti.get t with
              | none => rw [hi] at h; cases h
              | some i =>
                rw [hi] at h
                simp only [] at h
                have hund := hE.run_und hi w
                cases hu : i.und with
                | pointer e =>
                  rw [hu] at h hund
                  simp only [] at h
                  cases he : E.ti.get e with
                  | none => rw [he] at h; cases h
                  | some ei =>
                    rw [he] at h
                    simp only [] at h
                    cases heu : ei.und with
                    | int kk =>
                      rw [heu] at h
                      cases kk with
                      | u8 =>
                        simp only [] at h
                        cases hc : (Nat.beq ei.size 1 && decide (n.toNat < big) && isElem st b e) with
                        | false => rw [hc] at h; cases h
                        | true =>
                          rw [hc] at h
                          simp only [cond_true] at h
                          rw [Bool.and_eq_true, Bool.and_eq_true] at hc
                          have hsz := Nat.eq_of_beq_eq_true hc.1.1
                          have hlt : n.toNat < big := by simpa using hc.1.2
                          cases hl : st.loads ⟨b, o, none⟩ n.toNat 0 with
                          | none => rw [hl] at h; cases h
                          | some l =>
                            rw [hl] at h
                            simp only [] at h
                            cases hbs : bytesL l with
                            | none => rw [hbs] at h; cases h
                            | some bs =>
                              cases hfz : freezeA st b with
                              | none => rw [hbs, hfz] at h; cases h
                              | some s1 =>
                                rw [hbs, hfz] at h
                                simp only [Option.some.injEq, Prod.mk.injEq] at h
                                obtain ⟨rfl, rfl⟩ := h
                                obtain ⟨ns, h1, h2, h3⟩ := bytesAt hr hb hl hbs
                                subst h3
                                have hpos : n.toNat ≠ 0 := by omega
                                obtain ⟨g1, g2⟩ := freeze_sound hr hb hfz (L.off + o) n.toNat hpos
                                refine ⟨.string ⟨⟨ns.map fun n => UInt8.ofNat n.toNat⟩⟩, _, μ, ?_, .string _, g1, g2⟩
                                -- the model's block
                                have hie := hc.2
                                unfold isElem at hie
                                cases hg : st.heap.get b with
                                | none => rw [hg] at hie; cases hie
                                | some ob =>
                                  rw [hg] at hie
                                  cases ob with
                                  | cells m c sz el op fz cls =>
                                    have hel := Nat.eq_of_beq_eq_true hie
                                    obtain ⟨o', ho', hR⟩ := hr.obj b L _ hb hg
                                    cases o' with
                                    | cells c' el' fz' =>
                                      obtain ⟨r1, r2, r3, r4, r5, r6⟩ := hR
                                      have hel' : el' = e := by rw [r4.2]; exact hel
                                      subst hel'
                                      have hlast : L.off + o + n.toNat ≤ c'.size := by
                                        have hcell := h2 (n.toNat - 1) (.int .u8 (ns[n.toNat - 1]'(by omega))) (by rw [List.getElem?_map, List.getElem?_eq_getElem (by omega)]; rfl)
                                        simp only [World.cell?, ho'] at hcell
                                        have := (Array.getElem?_eq_some_iff.1 hcell).1
                                        omega
                                      have hv := variablesAt_run (P := P) (a := ⟨L.blk, L.off + o, none⟩) (u := el') (n := n.toNat) ho'
                                      rw [lies_bytes hE he hsz hlast] at hv
                                      have hload := lay_loadBytes (P := P) (w := w) (B := L.blk) (o := L.off + o) ns 0 .empty (by simpa using h2)
                                      rw [h1, empty_eq, foldl_push] at hload
                                      have hb1 : ¬ (n > IntKind.i64.max) := by rw [hmax]; unfold big at hlt; omega
                                      have hbe : (elemOf t).run P w = .ok el' w := by simp [elemOf, hund]
                                      have hload' : (Go.loadBytes ⟨L.blk, L.off + o, none⟩ .empty n.toNat).run P w = .ok ⟨⟨ns.map fun n => UInt8.ofNat n.toNat⟩⟩ w := by simpa [empty_eq] using hload
                                      have hfr : (freeze ⟨L.blk, L.off + o, none⟩ n.toNat).run P w = .ok () (w.freeze ⟨L.blk, L.off + o, none⟩ n.toNat) := rfl
                                      show Sem.run P (Bind.bind (asInt (.int k n)) _) w = _
                                      simp only [asInt, asIntOf, Sem.run_bind, Sem.run_pure, Result.andThen_ok, List.getElem?_toArray, ht0, hneg, hb1, hn0, if_false, hbe, hv, if_true, hload', hfr]
                                    | _ => exact hR.elim
                                  | _ => cases hie
                      | _ => cases h
                    | _ => rw [heu] at h; cases h
                | _ => rw [hu] at h; cases h
  · cases h

/-! ### The runtime's own functions -/
theorem getB (x : List UInt8) (i : Nat) : (⟨⟨x⟩⟩ : ByteArray)[i]! = x[i]! := by
  by_cases h : i < x.length
  · rw [getElem!_pos (c := x) (i := i) h, getElem!_pos (c := (⟨⟨x⟩⟩ : ByteArray)) (i := i) h]; rfl
  · rw [getElem!_neg (c := x) (i := i) h, getElem!_neg (c := (⟨⟨x⟩⟩ : ByteArray)) (i := i) h]

theorem cmp_eq (x y : List UInt8) : Extern.BytealgCompare.cmp ⟨⟨x⟩⟩ ⟨⟨y⟩⟩ = cmpBytes x y := by
  have key : ∀ (x y : List UInt8), (match (List.range (min x.length y.length)).find? (fun i => x[i]! != y[i]!) with
      | some i => if x[i]! < y[i]! then (-1 : Int) else 1
      | none => if x.length < y.length then -1 else if x.length > y.length then 1 else 0) = cmpBytes x y := by
    intro x
    induction x with
    | nil =>
      intro y
      cases y with
      | nil => rfl
      | cons b y => simp [cmpBytes]
    | cons a x ih =>
      intro y
      cases y with
      | nil => simp [cmpBytes]
      | cons b y =>
        have hmin : min (a :: x).length (b :: y).length = min x.length y.length + 1 := by simp only [List.length_cons]; omega
        rw [hmin, List.range_succ_eq_map, List.find?_cons]
        by_cases e : a = b
        · subst e
          have h0 : ((a :: x)[0]! != (a :: y)[0]!) = false := by simp
          rw [h0]
          simp only []
          rw [List.find?_map]
          have hf : ((fun i => (a :: x)[i]! != (a :: y)[i]!) ∘ Nat.succ) = fun i => x[i]! != y[i]! := by
            funext i; simp
          rw [hf]
          have := ih y
          simp only [cmpBytes, if_true]
          rw [← this]
          cases (List.range (min x.length y.length)).find? fun i => x[i]! != y[i]! with
          | none => simp
          | some i => simp
        · have h0 : ((a :: x)[0]! != (b :: y)[0]!) = true := by simpa using e
          rw [h0]
          simp only []
          simp only [cmpBytes, if_neg e]
          simp
  have := key x y
  unfold Extern.BytealgCompare.cmp
  simp only [getB]
  exact this

theorem idx_eq (c : UInt8) (x : List UInt8) : (match (List.range x.length).find? (fun i => x[i]! == c) with | some i => (i : Int) | none => -1) = idxByte c x 0 := by
  have key : ∀ (x : List UInt8) (k : Nat), (match (List.range x.length).find? (fun i => x[i]! == c) with | some i => ((i + k : Nat) : Int) | none => -1) = idxByte c x k := by
    intro x
    induction x with
    | nil => intro k; rfl
    | cons a x ih =>
      intro k
      rw [List.length_cons, List.range_succ_eq_map, List.find?_cons]
      by_cases e : a = c
      · have h0 : ((a :: x)[0]! == c) = true := by simpa using e
        rw [h0]
        simp [idxByte, e]
      · have h0 : ((a :: x)[0]! == c) = false := by simpa using e
        rw [h0]
        simp only []
        rw [List.find?_map]
        have hf : ((fun i => (a :: x)[i]! == c) ∘ Nat.succ) = fun i => x[i]! == c := by
          funext i; simp
        rw [hf]
        simp only [idxByte, if_neg e]
        rw [← ih (k + 1)]
        cases (List.range x.length).find? fun i => x[i]! == c with
        | none => rfl
        | some i => simp only [Option.map_some]; congr 1; omega
  have := key x 0
  simpa using this

theorem extern_sound (hr : HR μ st w.heap base) {x : Ext} {args : List Value} {args' : Array Value} {v : Value} {st' : St} (h : externA x st args = some (v, st')) (ha : VRL μ args args'.toList) : Snd P μ st w base (extSem x args') v st' := by
  unfold externA at h
  split at h
  · rename_i a b
    cases h1 : bytesArg st a with
    | none => rw [h1] at h; cases h
    | some x =>
      cases h2 : bytesArg st b with
      | none => rw [h1, h2] at h; cases h
      | some y =>
        rw [h1, h2] at h
        simp only [Option.some.injEq, Prod.mk.injEq] at h
        obtain ⟨rfl, rfl⟩ := h
        generalize hargs : args'.toList = la at ha
        cases ha with
        | cons hx ha2 =>
          rename_i x' r'
          cases ha2 with
          | cons hy ha3 =>
            rename_i y' r2'
            cases ha3
            have : args' = #[x', y'] := by rw [← Array.toList_inj, hargs]
            subst this
            have e1 := bytesArg_sound (P := P) hr h1 hx
            have e2 := bytesArg_sound (P := P) hr h2 hy
            refine Pur.snd ⟨.int .i64 (cmpBytes x y), ?_, .int _ _⟩ hr
            show Sem.run P (Bind.bind (Extern.Bytes.bytesOf x') _) w = _
            rw [Sem.run_bind, e1, Result.andThen_ok]
            show Sem.run P (Bind.bind (Extern.Bytes.bytesOf y') _) w = _
            rw [Sem.run_bind, e2, Result.andThen_ok]
            show Result.ok (Value.int .i64 (Extern.BytealgCompare.cmp ⟨⟨x⟩⟩ ⟨⟨y⟩⟩)) w = _
            rw [cmp_eq]
  · rename_i a
    simp only [Option.some.injEq, Prod.mk.injEq] at h
    obtain ⟨rfl, rfl⟩ := h
    generalize hargs : args'.toList = la at ha
    cases ha with
    | cons hx ha2 =>
      rename_i x' r'
      cases ha2
      have : args' = #[x'] := by rw [← Array.toList_inj, hargs]
      subst this
      exact Pur.snd ⟨x', rfl, hx⟩ hr
  · rename_i a c
    cases h1 : bytesArg st a with
    | none => rw [h1] at h; cases h
    | some x =>
      rw [h1] at h
      simp only [Option.some.injEq, Prod.mk.injEq] at h
      obtain ⟨rfl, rfl⟩ := h
      generalize hargs : args'.toList = la at ha
      cases ha with
      | cons hx ha2 =>
        rename_i x' r'
        cases ha2 with
        | cons hy ha3 =>
          cases ha3
          cases hy
          have : args' = #[x', .int .u8 c] := by rw [← Array.toList_inj, hargs]
          subst this
          have e1 := bytesArg_sound (P := P) hr h1 hx
          refine Pur.snd ⟨.int .i64 (idxByte c.toNat.toUInt8 x 0), ?_, .int _ _⟩ hr
          have hidx := idx_eq c.toNat.toUInt8 x
          have hsz : (⟨⟨x⟩⟩ : ByteArray).size = x.length := rfl
          show Sem.run P (Bind.bind (Extern.Bytes.bytesOf x') _) w = _
          rw [Sem.run_bind, e1, Result.andThen_ok]
          show Sem.run P (match (List.range (ByteArray.size ⟨⟨x⟩⟩)).find? (fun i => (⟨⟨x⟩⟩ : ByteArray)[i]! == c.toNat.toUInt8) with | some i => pure (goInt i) | none => pure (goInt (-1))) w = _
          simp only [getB, hsz]
          cases hf : (List.range x.length).find? fun i => x[i]! == c.toNat.toUInt8 with
          | none => rw [hf] at hidx; simp only [] at hidx ⊢; rw [← hidx]; rfl
          | some i => rw [hf] at hidx; simp only [] at hidx ⊢; rw [← hidx]; rfl
  · rename_i a c
    cases h1 : bytesArg st a with
    | none => rw [h1] at h; cases h
    | some x =>
      rw [h1] at h
      simp only [Option.some.injEq, Prod.mk.injEq] at h
      obtain ⟨rfl, rfl⟩ := h
      generalize hargs : args'.toList = la at ha
      cases ha with
      | cons hx ha2 =>
        rename_i x' r'
        cases ha2 with
        | cons hy ha3 =>
          cases ha3
          cases hy
          have : args' = #[x', .int .u8 c] := by rw [← Array.toList_inj, hargs]
          subst this
          have e1 := bytesArg_sound (P := P) hr h1 hx
          refine Pur.snd ⟨.int .i64 (cntByte c.toNat.toUInt8 x), ?_, .int _ _⟩ hr
          show Sem.run P (Bind.bind (Extern.Bytes.bytesOf x') _) w = _
          rw [Sem.run_bind, e1, Result.andThen_ok]
          show Result.ok (goInt (ByteArray.foldl (fun (n : Int) x => if x == c.toNat.toUInt8 then n + 1 else n) ((0 : Nat) : Int) ⟨⟨x⟩⟩)) w = _
          rw [Lib.foldl_data]
          rfl
  · cases h

theorem makeMap_run (hE : EnvOK P E) {ρ : Nat → Value} {a : Act} (hρ : RR μ ρ a.tmps) {t : TypeId} {r : Option Operand} {res : ORes} {st' : St} (h : execA E ρ st (.makeMap t r) = some (res, st')) :
    ∃ v, makeMapA st = some (v, st') ∧ res = .val v ∧ (Instr.makeMap t (r.map a.eval)).run P w = .ok (.map (some w.heap.size)) (w.alloc (.map #[] 0)) := by
  have two_res : ∀ {v : Option (Value × St)}, two v = some (res, st') → ∃ x, v = some (x, st') ∧ res = .val x := by
    intro v h
    cases v with
    | none => cases h
    | some x => obtain ⟨x, s⟩ := x; simp only [two, Option.some.injEq, Prod.mk.injEq] at h; exact ⟨x, by rw [h.2], h.1.symm⟩
  simp only [execA] at h
  split at h
  · rename_i k n ho
    have g := opt_sound hρ ho
    obtain ⟨u, hu, hv⟩ := g
    cases hv
    cases hi : E.ti.get t with
    | none => rw [hi] at h; cases h
    | some i =>
      rw [hi] at h
      simp only [] at h
      have hund := hE.run_und hi w
      cases hiu : i.und with
      | map kt et =>
        rw [hiu] at h hund
        obtain ⟨v, h1, h2⟩ := two_res h
        refine ⟨v, h1, h2, ?_⟩
        rw [hu]
        simp only [Instr.makeMap, Sem.run_bind, hund, Result.andThen_ok, asInt, asIntOf, Sem.run_pure, run_newObj_alloc]
      | _ => rw [hiu] at h; cases h
  · rename_i ho
    have g : r.map a.eval = none := opt_sound hρ ho
    obtain ⟨v, h1, h2⟩ := two_res h
    refine ⟨v, h1, h2, ?_⟩
    rw [g]
    simp only [Instr.makeMap, Sem.run_bind, Result.andThen_ok, Sem.run_pure, run_newObj_alloc]
  · cases h

end
end Go.Det
