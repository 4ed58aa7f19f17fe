/- Appending, copying, clearing. -/
import Derived.Test.YtofiafmbiedjnaaGreatDoorDetOps4
set_option autoImplicit false
namespace Go.Det

section
variable {P : Program} {E : Env} {μ : Ren} {st : St} {w : World} {base : Nat}

theorem buildSlice_mk (hE : EnvOK P E) {t len : Nat} {ps : List (Nat × Value)} {x : Value} {st' : St} (h : buildSliceA E st t len ps = some (x, st')) :
    ∃ o, Lays st o st' ∧ isLive o = true ∧ ∀ (μ : Ren) (w : World) (ps' : Array (Nat × Value)), PartsR μ ps ps'.toList → Mk P μ w (Instr.buildSlice t len ps') x st.next o := by
  unfold buildSliceA at h
  cases hi : E.ti.get t with
  | none => rw [hi] at h; cases h
  | some i =>
    rw [hi] at h
    simp only [] at h
    cases hu : i.und with
    | slice e =>
      rw [hu] at h
      simp only [] at h
      cases he : E.ti.get e with
      | none => rw [he] at h; cases h
      | some ei =>
        rw [he] at h
        simp only [] at h
        split at h
        · cases h
        · rename_i hbig
          have hbig' : ¬ (len > 100000) ∧ ¬ (len * ei.size > 100000) := ⟨fun g => hbig (.inl g), fun g => hbig (.inr g)⟩
          cases hf : fillA (fun j => some (Nat.mul j ei.size, ei.size)) (zeros (cellsOf ei.zero) len) ps with
          | none => rw [hf] at h; cases h
          | some cs =>
            rw [hf] at h
            simp only [] at h
            cases hrow : st.row cs ei.size e false with
            | none => rw [hrow] at h; cases h
            | some q =>
              obtain ⟨b, s⟩ := q
              rw [hrow] at h
              simp only [Option.some.injEq, Prod.mk.injEq] at h
              obtain ⟨rfl, rfl⟩ := h
              obtain ⟨cc, hcc, rfl, hlays⟩ := rowLays hrow
              refine ⟨_, hlays, rfl, fun μ w ps' hp => ?_⟩
              have hund := hE.run_und hi w
              rw [hu] at hund
              have hcs := size_zero hE he
              have hz : VRL μ (zeros (cellsOf ei.zero) len) ((Array.range (len * ei.zero.cells.size)).map fun k => ei.zero.cells[k % ei.zero.cells.size]!).toList := by
                refine VRL.of_get ?_ ?_
                · rw [zeros_length]; simp [cellsOf]
                · intro j u hu
                  obtain ⟨u', a, c⟩ := zeros_rel μ hE he len j u hu
                  exact ⟨u', by rw [Array.getElem?_toList]; exact a, c⟩
              obtain ⟨out', a, c⟩ := fill_sound (place := fun j => some (Nat.mul j ei.size, ei.size)) ps ps'.toList _ _ cs hf hp hz
              have hlen := c.length
              have hlen' : out'.size = cs.length := by rw [← hlen]; simp
              have hlb : len < big := by unfold big; omega
              refine ⟨.slice (some ⟨w.heap.size, 0, none⟩) len len, .cells out' e, w.alloc (.cells out' e), ⟨w.heap.size, 0, out'.size, ei.size⟩, ?_, rfl, rfl, rfl, rfl, fun μ' hs hb => ⟨VR.row0 hb (Nat.le_refl _) hlb,
                rowObj hcc (by omega) (fun _ => hlen') (fun j u hu => by obtain ⟨u', x, y⟩ := c.get hu; exact ⟨u', by rw [← Array.getElem?_toList]; exact x, y⟩) (noFreeze _) hs⟩⟩
              unfold Instr.buildSlice
              have h24 : ¬ (len * ei.size > 2 ^ 24) := by omega
              simp only [Sem.run_bind, hund, Result.andThen_ok, hE.run_size he, h24, if_false]
              have hplace : (fun i => some (i * ei.size, ei.size)) = fun j => some (Nat.mul j ei.size, ei.size) := rfl
              by_cases hn0 : len * ei.size = 0
              · have e0 : ((Array.range (len * ei.zero.cells.size)).map fun k => ei.zero.cells[k % ei.zero.cells.size]!) = ((Array.range (len * ei.size)).map fun k => (#[] : Array Value)[k % 0]!) := by
                  rw [hcs, hn0]; simp
                rw [e0] at a
                simp only [hn0, if_true, Sem.run_pure, Result.andThen_ok]
                rw [hn0] at a
                rw [hplace]
                simp only [Sem.run_bind, Sem.run_pure, Result.andThen_ok, List.size_toArray, List.length_nil, a]
                rfl
              · simp only [hn0, if_false, Sem.run_bind, hE.run_zero he, Result.andThen_ok, Sem.run_pure]
                rw [hplace]
                have e0 : ((Array.range (len * ei.zero.cells.size)).map fun k => ei.zero.cells[k % ei.zero.cells.size]!) = ((Array.range (len * ei.size)).map fun k => ei.zero.cells[k % ei.zero.cells.size]!) := by rw [hcs]
                rw [e0] at a
                rw [a]
                rfl
    | _ => rw [hu] at h; cases h

theorem buildSlice_sound (hE : EnvOK P E) (hr : HR μ st w.heap base) {t len : Nat} {ps : List (Nat × Value)} {ps' : Array (Nat × Value)} {x : Value} {st' : St} (h : buildSliceA E st t len ps = some (x, st'))
    (hp : PartsR μ ps ps'.toList) : Snd P μ st w base (Instr.buildSlice t len ps') x st' := by
  obtain ⟨o, hla, _, hm⟩ := buildSlice_mk (P := P) hE h
  exact (hm μ w ps' hp).snd hr hla

/-! ### The first cells -/
theorem SlR.off_eq {L : Loc} {o len cap o' cap' : Nat} (h : SlR L o len cap o' cap') (hp : 0 < cap') : o' = L.off + o := by
  obtain ⟨h1, h2, h3⟩ := h
  rcases Nat.lt_or_ge cap big with g | g
  · obtain ⟨a, b⟩ := h2 g
    rcases b with b | b
    · exact b
    · omega
  · rcases h3 g with a | a
    · exact a.1
    · omega

theorem loads0 {a : Addr} {i : Nat} {l : List Value} (h : st.loads a 0 i = some l) : l = [] := by
  simp only [St.loads, Option.some.injEq] at h; exact h.symm

theorem firsts_sound (hr : HR μ st w.heap base) {sz n : Nat} {x x' : Value} {l : List Value} (h : st.firsts sz n x = some l) (hx : VR μ x x') (hn : ∀ k, lenA x = some k → n ≤ k) (w1 : World) (hw : w1.heap = w.heap) :
    ∃ c : Array Value, (Builtin.firstCells sz n x').run P w1 = .ok c w1 ∧ VRL μ l c.toList := by
  cases hx with
  | string s =>
    simp only [St.firsts, Option.some.injEq] at h
    subst h
    refine ⟨_, rfl, ?_⟩
    have e : ((s.extract 0 n).data.map fun b => Value.int .u8 b.toNat).toList = ((s.data.toList).take n).map fun b => Value.int .u8 b.toNat := by
      rw [Array.toList_map]
      congr 1
      rw [ByteArray.data_extract, Array.toList_extract]
      simp [List.extract]
    rw [e]
    generalize ((s.data.toList).take n) = bs
    induction bs with
    | nil => exact .nil
    | cons b r ih => exact .cons (.int _ _) ih
  | snil =>
    simp only [St.firsts, Option.some.injEq] at h
    subst h
    exact ⟨#[], rfl, .nil⟩
  | slice b o L len cap o' cap' hb hs =>
    simp only [St.firsts] at h
    have hnl : n ≤ len := hn len rfl
    rcases Nat.eq_zero_or_pos (Nat.mul n sz) with g | g
    · rw [g] at h
      have := loads0 h
      subst this
      have g' : n * sz = 0 := g
      exact ⟨#[], by simp [Builtin.firstCells, g', loadCells, loadCellsFrom], .nil⟩
    · have hnp : 0 < n := by
        rcases Nat.eq_zero_or_pos n with e | e
        · subst e; have g' : 0 < 0 * sz := g; simp at g'
        · exact e
      have hoff := hs.off_eq (by have := hs.1; omega)
      subst hoff
      have hr1 : HR μ st w1.heap base := by rw [hw]; exact hr
      obtain ⟨l', hlen, hc, hv⟩ := St.loads_sound hr1 hb _ _ _ h
      have hrun := run_loadCells_list (P := P) (w := w1) ⟨L.blk, L.off + o, none⟩ l' (fun j u hu => by rw [add_none]; have := hc j u hu; simpa using this)
      rw [hlen] at hrun
      exact ⟨l'.toArray, by simpa [Builtin.firstCells] using hrun, by simpa using hv⟩
  | _ => cases h

theorem lenOf_sound {x x' : Value} {n : Nat} (h : lenA x = some n) (hx : VR μ x x') : (Builtin.lenOf x').run P w = .ok n w := by
  cases hx <;> simp only [lenA, Option.some.injEq] at h <;> first | (cases h; done) | (subst h; rfl)

/-! ### Copy and clear -/
theorem copy_sound (hE : EnvOK P E) (hr : HR μ st w.heap base) {ts : Array TypeId} {ty : TypeId} {args : List Value} {args' : Array Value} {x : Value} {st' : St} (h : copyA E st ts args = some (x, st')) (ha : VRL μ args args'.toList) :
    Snd P μ st w base (Builtin.copy_ ts ty args') x st' := by
  unfold copyA at h
  split at h
  · rename_i t trest base0 dLen dcap x0 xrest hts
    cases hi : E.ti.get t with
    | none => rw [hi] at h; cases h
    | some i =>
      rw [hi] at h
      simp only [] at h
      cases hu : i.und with
      | slice e =>
        rw [hu] at h
        simp only [] at h
        cases he : E.ti.get e with
        | none => rw [he] at h; cases h
        | some ei =>
          cases hl : lenA x0 with
          | none => rw [he, hl] at h; cases h
          | some m =>
            rw [he, hl] at h
            simp only [] at h
            cases hf : st.firsts ei.size (min m dLen) x0 with
            | none => rw [hf] at h; cases h
            | some cs =>
              rw [hf] at h
              simp only [] at h
              have hund := hE.run_und hi w
              rw [hu] at hund
              have ht0 : ts[0]? = some t := by rw [← Array.getElem?_toList, hts]; rfl
              generalize hargs : args'.toList = la at ha
              cases ha with
              | cons hd ht =>
                rename_i d' r'
                cases ht with
                | cons hx0 hxr =>
                  rename_i x0' r2'
                  have ha0 : args'[0]? = some d' := by rw [← Array.getElem?_toList, hargs]; rfl
                  have ha1 : args'[1]? = some x0' := by rw [← Array.getElem?_toList, hargs]; rfl
                  obtain ⟨c, hc1, hc2⟩ := firsts_sound (P := P) hr hf hx0 (fun k hk => by rw [hl] at hk; cases hk; exact Nat.min_le_left _ _) w rfl
                  have hlen0 := lenOf_sound (P := P) (w := w) hl hx0
                  cases hd with
                  | snil =>
                    simp only [Option.some.injEq, Prod.mk.injEq] at h
                    obtain ⟨rfl, rfl⟩ := h
                    refine ⟨.int .i64 (min m 0 : Nat), w, μ, ?_, .int _ _, hr, Ex.refl _ _ _ _⟩
                    have hc1' : (Builtin.firstCells ei.size 0 x0').run P w = .ok c w := by simpa using hc1
                    simp [Builtin.copy_, ht0, ha0, ha1, hund, hlen0, hE.run_size he, hc1', goInt]
                  | slice b o L _ _ o' cap' hb hs =>
                    simp only [] at h
                    cases hst : st.stores ⟨b, o, none⟩ cs with
                    | none => rw [hst] at h; cases h
                    | some s1 =>
                      rw [hst] at h
                      simp only [Option.some.injEq, Prod.mk.injEq] at h
                      obtain ⟨rfl, rfl⟩ := h
                      have hc1' : (Builtin.firstCells ei.size (Nat.min m dLen) x0').run P w = .ok c w := hc1
                      cases cs with
                      | nil =>
                        cases hc2' : c.toList with
                        | cons _ _ => rw [hc2'] at hc2; cases hc2
                        | nil =>
                          simp only [St.stores, Option.some.injEq] at hst
                          subst hst
                          refine ⟨.int .i64 (min m dLen : Nat), w, μ, ?_, .int _ _, hr, Ex.refl _ _ _ _⟩
                          simp [Builtin.copy_, ht0, ha0, ha1, hund, hlen0, hE.run_size he, hc1', hc2', storeCells, goInt]
                      | cons v0 vr =>
                        have hpos : 0 < cap' := by
                          have h1 := hs.1
                          rcases Nat.eq_zero_or_pos dLen with g | g
                          · -- nothing to copy: no cell
                            exfalso
                            rw [g] at hf
                            have e0 : min m 0 = 0 := by simp
                            rw [e0] at hf
                            cases x0 <;> simp only [St.firsts, Option.some.injEq] at hf <;> first
                              | (cases hf; done)
                              | (simp at hf; done)
                              | skip
                            rename_i a0 _ _
                            cases a0 with
                            | none => simp [St.firsts] at hf
                            | some a0 =>
                              simp only [St.firsts] at hf
                              have e1 : Nat.mul 0 ei.size = 0 := Nat.zero_mul _
                              rw [e1] at hf
                              have := loads0 hf
                              cases this
                          · omega
                        have hoff := hs.off_eq hpos
                        subst hoff
                        obtain ⟨w', a1, a2, a3⟩ := HR.stores (P := P) hr hst hb hc2
                        refine ⟨.int .i64 (min m dLen : Nat), w', μ, ?_, .int _ _, a2, a3⟩
                        simp [Builtin.copy_, ht0, ha0, ha1, hund, hlen0, hE.run_size he, hc1', a1, goInt]
      | _ => rw [hu] at h; cases h
  · cases h

end
end Go.Det
