/- Slices of slices, aggregates, small things. -/
import Derived.Test.YtofiafmbiedjnaaGreatDoorDetOps2
set_option autoImplicit false
namespace Go.Det

section
variable {P : Program} {E : Env} {μ : Ren} {w : World}

theorem at_eq (b o i : Nat) : at_ ⟨b, o, none⟩ i = ⟨b, o + i, none⟩ := rfl

theorem sliceA_sound (hE : EnvOK P E) {st : St} {base : Nat} (hr : HR μ st w.heap base) {t : TypeId} {x x' v : Value} {lo hi mx lo' hi' mx' : Option Value} (h : sliceA E st t x lo hi mx = some v)
    (hx : VR μ x x') (hlo : OptR μ lo lo') (hhi : OptR μ hi hi') (hmx : OptR μ mx mx') : Pur P μ w (Instr.sliceAt t x' lo' hi' mx') v := by
  unfold sliceA at h
  cases hi0 : E.ti.get t with
  | none => rw [hi0] at h; cases h
  | some i =>
    rw [hi0] at h
    simp only [] at h
    have hund := hE.run_und hi0 w
    unfold Pur Instr.sliceAt
    simp only [Sem.run_bind, hund, Result.andThen_ok]
    cases hu : i.und with
    | string =>
      rw [hu] at h hund
      cases hx with
      | string s =>
        cases mx with
        | some m => cases h
        | none =>
          simp only [] at h
          cases hb : boundsA s.size s.size s.size lo hi none with
          | none => rw [hb] at h; cases h
          | some q =>
            obtain ⟨l, hh, m⟩ := q
            rw [hb] at h
            simp only [Option.some.injEq] at h
            subst h
            obtain ⟨m', hs, _⟩ := bounds_sound (P := P) (μ := μ) (w := w) (isSlice := false) hb hlo hhi hmx (Nat.le_refl _)
            cases hmx
            refine ⟨.string (s.extract l hh), ?_, .string _⟩
            simp [Instr.slice, hund, hs]
      | _ => cases h
    | slice e =>
      rw [hu] at h hund
      cases hx with
      | snil =>
        simp only [] at h
        cases he : E.ti.get e with
        | none => rw [he] at h; cases h
        | some ei =>
          rw [he] at h
          have hc : (0 : Nat) < big := by unfold big; omega
          simp only [hc, if_true] at h
          cases hb : boundsA 0 0 0 lo hi mx with
          | none => rw [hb] at h; cases h
          | some q =>
            obtain ⟨l, hh, m⟩ := q
            rw [hb] at h
            simp only [true_or, if_true, Option.some.injEq] at h
            subst h
            obtain ⟨m', hs, hlh, hm⟩ := bounds_sound (P := P) (μ := μ) (w := w) (isSlice := true) hb hlo hhi hmx (Nat.le_refl _)
            have hz : m' = 0 ∧ hh = 0 ∧ l = 0 ∧ m = 0 := by
              rcases hm with ⟨_, a, c, d⟩ | ⟨_, a, c, d⟩ <;> omega
            obtain ⟨rfl, rfl, rfl, rfl⟩ := hz
            refine ⟨.slice none 0 0, ?_, .snil⟩
            simp [Instr.slice, hund, hs, hE.run_size he]
      | slice b o L len cap o' cap' hb0 hs0 =>
        simp only [] at h
        cases he : E.ti.get e with
        | none => rw [he] at h; cases h
        | some ei =>
          rw [he] at h
          simp only [] at h
          obtain ⟨s1, s2, s3⟩ := hs0
          by_cases hc : cap < big
          · simp only [hc, if_true] at h
            obtain ⟨ecap, hoff⟩ := s2 hc
            have ecap' := ecap.symm
            subst ecap'
            cases hb : boundsA cap len cap lo hi mx with
            | none => rw [hb] at h; cases h
            | some q =>
              obtain ⟨l, hh, m⟩ := q
              rw [hb] at h
              simp only [hc, true_or, if_true, Option.some.injEq] at h
              subst h
              obtain ⟨m', hs, hlh, hm⟩ := bounds_sound (P := P) (μ := μ) (w := w) (isSlice := true) hb hlo hhi hmx (Nat.le_refl _)
              have hm' : m' = m ∧ hh ≤ m ∧ m ≤ cap := by
                rcases hm with ⟨_, a, c, d⟩ | ⟨_, a, c, d⟩
                · exact ⟨by rw [a, c], by omega, by omega⟩
                · exact ⟨a, d, c⟩
              obtain ⟨rfl, hhm, hmc⟩ := hm'
              refine ⟨.slice (if m' = l then some ⟨L.blk, o', none⟩ else some ⟨L.blk, o' + l * ei.size, none⟩) (hh - l) (m' - l), ?_, ?_⟩
              · by_cases eml : m' = l
                · simp [Instr.slice, hund, hs, hE.run_size he, eml]
                · simp [Instr.slice, hund, hs, hE.run_size he, eml, add_none]
              · by_cases eml : m' = l
                · rw [if_pos eml, if_pos eml]
                  exact .slice b o L _ _ o' _ hb0 ⟨by show hh - l ≤ m' - l; omega, fun _ => ⟨rfl, .inr (by show m' - l = 0; omega)⟩, fun g => by have : m' - l ≥ big := g; omega⟩
                · rw [if_neg eml, if_neg eml]
                  simp only [Option.map_some, at_eq]
                  have ho : o' = L.off + o := by
                    rcases hoff with g | g
                    · exact g
                    · omega
                  exact .slice b (o + l * ei.size) L _ _ _ _ hb0 ⟨by show hh - l ≤ m' - l; omega, fun _ => ⟨rfl, .inl (by rw [ho]; omega)⟩, fun g => by have : m' - l ≥ big := g; omega⟩
          · simp only [hc, if_false] at h
            have hcb : big ≤ cap := by omega
            cases hg : st.heap.get b with
            | none => rw [hg] at h; cases h
            | some ob =>
              rw [hg] at h
              cases ob with
              | cells n c sz el op fz k =>
                cases op with
                | false => cases h
                | true =>
                  simp only [] at h
                  by_cases hcond : sz = ei.size ∧ 0 < sz ∧ o ≤ n
                  · rw [if_pos hcond] at h
                    simp only [] at h
                    obtain ⟨esz, hsz, hon⟩ := hcond
                    obtain ⟨ob', hob, hR⟩ := hr.obj b L _ hb0 hg
                    cases ob' with
                    | cells c' el' fz' =>
                      obtain ⟨r1, r2, r3, r4, r5, r6⟩ := hR
                      have htop : Nat.div (Nat.sub n o) ei.size ≤ cap' ∧ (cap' = 0 ∧ len = 0 ∧ o = L.room → Nat.div (Nat.sub n o) ei.size = 0) := by
                        have e1 : Nat.div (Nat.sub n o) ei.size = (n - o) / ei.size := rfl
                        rw [e1]
                        constructor
                        · rcases s3 hcb with ⟨g1, g2⟩ | ⟨g1, g2, g3⟩
                          · rw [Nat.div_le_iff_le_mul_add_pred (by omega)]
                            rw [r4.1, esz] at g2
                            have : n - o ≤ ei.size * cap' := by rw [Nat.mul_comm]; omega
                            omega
                          · have : n - o = 0 := by omega
                            rw [this]; simp
                        · rintro ⟨_, _, g3⟩
                          have : n - o = 0 := by omega
                          rw [this]; simp
                      cases hb : boundsA (Nat.div (Nat.sub n o) ei.size) len cap lo hi mx with
                      | none => rw [esz] at h; rw [hb] at h; cases h
                      | some q =>
                        obtain ⟨l, hh, m⟩ := q
                        rw [esz] at h
                        rw [hb] at h
                        simp only [hc, false_or] at h
                        split at h
                        · rename_i hck
                          simp only [Option.some.injEq] at h
                          subst h
                          obtain ⟨m', hs, hlh, hm⟩ := bounds_sound (P := P) (μ := μ) (w := w) (isSlice := true) (cap' := cap') hb hlo hhi hmx htop.1
                          have hhc : hh ≤ cap' := by
                            rcases hm with ⟨_, a, c, d⟩ | ⟨_, a, c, d⟩ <;> omega
                          refine ⟨.slice (if m' = l then some ⟨L.blk, o', none⟩ else some ⟨L.blk, o' + l * ei.size, none⟩) (hh - l) (m' - l), ?_, ?_⟩
                          · by_cases eml : m' = l
                            · simp [Instr.slice, hund, hs, hE.run_size he, eml]
                            · simp [Instr.slice, hund, hs, hE.run_size he, eml, add_none]
                          · rcases hm with ⟨hmn, a, c1, d⟩ | ⟨hmn, a, c1, d⟩
                            · -- no third index
                              subst a; subst c1
                              have hbig : big ≤ m - l := by
                                rcases hck with g | g
                                · rw [hmn] at g; simp at g
                                · exact g.2
                              have hb1 : 0 < big := by unfold big; omega
                              have eml : ¬ (m = l) := by omega
                              rw [if_neg eml]
                              simp only [Option.map_some, at_eq]
                              rcases s3 hcb with ⟨g1, g2⟩ | ⟨g1, g2, g3⟩
                              · rw [r4.1, esz] at g2
                                by_cases em' : m' = l
                                · rw [if_pos em']
                                  refine .slice b (o + l * ei.size) L _ _ _ _ hb0 ⟨by show hh - l ≤ m' - l; omega, fun g => by have : m - l < big := g; omega, fun _ => .inr ⟨by show m' - l = 0; omega, by show hh - l = 0; omega, ?_⟩⟩
                                  rw [em'] at g2; omega
                                · rw [if_neg em']
                                  refine .slice b (o + l * ei.size) L _ _ _ _ hb0 ⟨by show hh - l ≤ m' - l; omega, fun g => by have : m - l < big := g; omega, fun _ => .inl ⟨by omega, ?_⟩⟩
                                  rw [r4.1, esz]
                                  show o' + l * ei.size + (m' - l) * ei.size = L.off + L.room
                                  have : l * ei.size + (m' - l) * ei.size = m' * ei.size := by rw [← Nat.add_mul]; congr 1; omega
                                  omega
                              · have ht0 := htop.2 ⟨g1, g2, g3⟩
                                have hh0 : hh = 0 := by omega
                                have hl0 : l = 0 := by omega
                                have em' : m' = l := by omega
                                rw [if_pos em']
                                subst hl0; subst hh0
                                refine .slice b (o + 0 * ei.size) L _ _ _ _ hb0 ⟨by show 0 - 0 ≤ m' - 0; omega, fun g => by have : m - 0 < big := g; omega, fun _ => .inr ⟨by show m' - 0 = 0; omega, rfl, by omega⟩⟩
                            · subst a
                              have hlt : m' - l < big := by
                                rcases hck with g | g
                                · exact g.2
                                · have := g.1; cases mx with
                                  | none => exact absurd rfl hmn
                                  | some _ => simp at this
                              by_cases eml : m' = l
                              · rw [if_pos eml, if_pos eml]
                                exact .slice b o L _ _ o' _ hb0 ⟨by show hh - l ≤ m' - l; omega, fun _ => ⟨rfl, .inr (by show m' - l = 0; omega)⟩, fun g => by have : m' - l ≥ big := g; omega⟩
                              · rw [if_neg eml, if_neg eml]
                                simp only [Option.map_some, at_eq]
                                have ho : o' = L.off + o := by
                                  rcases s3 hcb with ⟨g1, _⟩ | g
                                  · exact g1
                                  · have ht0 := htop.2 g
                                    omega
                                exact .slice b (o + l * ei.size) L _ _ _ _ hb0 ⟨by show hh - l ≤ m' - l; omega, fun _ => ⟨rfl, .inl (by rw [ho]; omega)⟩, fun g => by have : m' - l ≥ big := g; omega⟩
                        · cases h
                    | _ => exact hR.elim
                  · simp only [hcond, if_false] at h
                    cases h
              | _ => cases h
      | _ => cases h
    | array n e =>
      rw [hu] at h hund
      cases hx with
      | ptr b o L hb0 =>
        simp only [] at h
        cases he : E.ti.get e with
        | none => rw [he] at h; cases h
        | some ei =>
          rw [he] at h
          cases hb : boundsA n n n lo hi mx with
          | none => rw [hb] at h; cases h
          | some q =>
            obtain ⟨l, hh, m⟩ := q
            rw [hb] at h
            simp only [] at h
            cases hnb : Nat.blt n big with
            | false => rw [hnb] at h; cases h
            | true =>
              rw [hnb] at h
              simp only [cond_true, Option.some.injEq] at h
              subst h
              have hn : n < big := by simpa [Nat.blt_eq] using hnb
              obtain ⟨m', hs, hlh, hm⟩ := bounds_sound (P := P) (μ := μ) (w := w) (isSlice := false) hb hlo hhi hmx (Nat.le_refl _)
              have hm' : m' = m ∧ hh ≤ m ∧ m ≤ n := by
                rcases hm with ⟨_, a, c, d⟩ | ⟨_, a, c, d⟩
                · exact ⟨by rw [a, c], by omega, by omega⟩
                · exact ⟨a, d, c⟩
              obtain ⟨rfl, hhm, hmc⟩ := hm'
              refine ⟨.slice (some (if m' = l then ⟨L.blk, L.off + o, none⟩ else ⟨L.blk, L.off + o + l * ei.size, none⟩)) (hh - l) (m' - l), ?_, ?_⟩
              · by_cases eml : m' = l
                · simp [Instr.sureAddr, hs, hE.run_size he, eml]
                · simp [Instr.sureAddr, hs, hE.run_size he, eml, add_none]
              · by_cases eml : m' = l
                · rw [if_pos eml, if_pos eml]
                  exact .slice b o L _ _ _ _ hb0 ⟨by show hh - l ≤ m' - l; omega, fun _ => ⟨rfl, .inl rfl⟩, fun g => by have : m' - l ≥ big := g; omega⟩
                · rw [if_neg eml, if_neg eml]
                  simp only [at_eq]
                  exact .slice b (o + l * ei.size) L _ _ _ _ hb0 ⟨by show hh - l ≤ m' - l; omega, fun _ => ⟨rfl, .inl (by show L.off + o + l * ei.size = L.off + (o + l * ei.size); omega)⟩, fun g => by have : m' - l ≥ big := g; omega⟩
      | _ => cases h
    | _ => rw [hu] at h; cases hx <;> cases h

/-! ### Aggregates -/
theorem foldl_wr : ∀ (vs : List Value) (k off : Nat) (c : Array Value), (vs.zipIdx k).foldl (fun cs (x : Value × Nat) => cs.setIfInBounds (off + x.2) x.1) c = wr c (off + k) vs
  | [], _, _, _ => rfl
  | v :: r, k, off, c => by
    simp only [List.zipIdx_cons, List.foldl_cons, wr]
    rw [foldl_wr r (k + 1) off]
    rfl

theorem fill_sound {place : Nat → Option (Nat × Nat)} : ∀ (parts parts' : List (Nat × Value)) (cs : List Value) (cs' : Array Value) (out : List Value), fillA place cs parts = some out → PartsR μ parts parts' → VRL μ cs cs'.toList →
    ∃ out', Instr.fill place cs' parts' = some out' ∧ VRL μ out out'.toList
  | [], _, cs, cs', out, h, hp, hc => by
    cases hp
    simp only [fillA, Option.some.injEq] at h
    subst h
    exact ⟨cs', rfl, hc⟩
  | (i, v) :: r, _, cs, cs', out, h, hp, hc => by
    cases hp with
    | cons hv ht =>
      rename_i v' r'
      simp only [fillA] at h
      cases hpl : place i with
      | none => rw [hpl] at h; cases h
      | some q =>
        obtain ⟨off, size⟩ := q
        rw [hpl] at h
        simp only [] at h
        split at h
        · cases h
        · rename_i hcond
          have hv' := hv.cells
          have hlv : v'.cells.size = (cellsOf v).length := by rw [← hv'.length]; simp [cellsOf]
          have hlc : cs'.size = cs.length := by rw [← hc.length]; simp
          have hne : ¬ (v'.cells.size ≠ size ∨ off + v'.cells.size > cs'.size) := by rw [hlv, hlc]; exact hcond
          have hstep : VRL μ (cs.take off ++ cellsOf v ++ cs.drop (off + (cellsOf v).length)) (wr cs' off (cellsOf v')).toList := by
            have hle : off + (cellsOf v).length ≤ cs.length := by
              rcases Nat.lt_or_ge cs.length (off + (cellsOf v).length) with g | g
              · exact absurd (.inr g) hcond
              · exact g
            refine VRL.of_get ?_ ?_
            · simp [wr_size, hlc]; omega
            · intro j u hu
              have hl2 : (cellsOf v').length = (cellsOf v).length := hv'.length
              rw [Array.getElem?_toList, wr_get _ _ _ _ (by rw [hl2, hlc]; exact hle)]
              by_cases g1 : j < off
              · have e1 : ¬ (off ≤ j ∧ j < off + (cellsOf v').length) := by omega
                rw [if_neg e1]
                rw [List.append_assoc, List.getElem?_append_left (by simp; omega), List.getElem?_take_of_lt g1] at hu
                obtain ⟨u', a, b⟩ := hc.get hu
                exact ⟨u', by rw [← Array.getElem?_toList]; exact a, b⟩
              · by_cases g2 : j < off + (cellsOf v).length
                · rw [if_pos (by omega)]
                  rw [List.getElem?_append_left (by simp; omega), List.getElem?_append_right (by simp; omega)] at hu
                  have e2 : j - (cs.take off).length = j - off := by simp; omega
                  rw [e2] at hu
                  exact hv'.get hu
                · rw [if_neg (by omega)]
                  rw [List.getElem?_append_right (by simp; omega)] at hu
                  have e2 : j - (cs.take off ++ cellsOf v).length = j - (off + (cellsOf v).length) := by simp; omega
                  rw [e2, List.getElem?_drop] at hu
                  have e3 : off + (cellsOf v).length + (j - (off + (cellsOf v).length)) = j := by omega
                  rw [e3] at hu
                  obtain ⟨u', a, b⟩ := hc.get hu
                  exact ⟨u', by rw [← Array.getElem?_toList]; exact a, b⟩
          obtain ⟨out', a, b⟩ := fill_sound r r' _ _ out h ht hstep
          refine ⟨out', ?_, b⟩
          simp only [Instr.fill, hpl]
          have hb : ¬ ((v'.cells.size ≠ size || decide (off + v'.cells.size > cs'.size)) = true) := by
            simpa using hne
          rw [if_neg (by simpa using hne)]
          have e4 : (v'.cells.zipIdx.foldl (fun cs (x : Value × Nat) => cs.setIfInBounds (off + x.2) x.1) cs') = wr cs' off (cellsOf v') := by
            rw [← Array.foldl_toList, Array.toList_zipIdx]
            exact foldl_wr v'.cells.toList 0 off cs'
          rw [← e4] at a
          exact a

theorem places_sound (hE : EnvOK P E) : ∀ (fs : List Field) (ps : List (Nat × Nat)), placesA E fs = some ps →
    (fs.mapM (fun (f : Field) => do pure (f.offset, ← sizeOf f.type)) : Sem (List (Nat × Nat))).run P w = .ok ps w
  | [], ps, h => by simp only [placesA, Option.some.injEq] at h; subst h; rfl
  | f :: r, ps, h => by
    simp only [placesA] at h
    cases hi : E.ti.get f.type with
    | none => rw [hi] at h; cases h
    | some i =>
      cases hr : placesA E r with
      | none => rw [hi, hr] at h; cases h
      | some l =>
        rw [hi, hr] at h
        simp only [Option.some.injEq] at h
        subst h
        have := places_sound hE r l hr
        rw [List.mapM_cons]
        simp only [Sem.run_bind, hE.run_size hi, Result.andThen_ok, Sem.run_pure]
        rw [this]
        rfl

theorem build_sound (hE : EnvOK P E) {t : TypeId} {ps : List (Nat × Value)} {ps' : Array (Nat × Value)} {v : Value} (h : buildA E t ps = some v) (hp : PartsR μ ps ps'.toList) : Pur P μ w (Instr.build t ps') v := by
  unfold buildA at h
  cases hi : E.ti.get t with
  | none => rw [hi] at h; cases h
  | some i =>
    rw [hi] at h
    simp only [] at h
    have hund := hE.run_und hi w
    have hz := plainV_cells μ (hE.zero t i hi).1
    unfold Pur Instr.build
    cases hu : i.und with
    | struct fs =>
      rw [hu] at h hund
      simp only [] at h
      cases hpl : placesA E fs.toList with
      | none => rw [hpl] at h; cases h
      | some pl =>
        rw [hpl] at h
        simp only [] at h
        cases hf : fillA (fun j => pl[j]?) (cellsOf i.zero) ps with
        | none => rw [hf] at h; cases h
        | some cs =>
          rw [hf] at h
          simp only [Option.some.injEq] at h
          subst h
          obtain ⟨out', a, b⟩ := fill_sound (place := fun j => pl[j]?) ps ps'.toList _ i.zero.cells cs hf hp hz
          have hmap := places_sound (w := w) hE fs.toList pl hpl
          simp only [bind_pure_comp] at hmap
          refine ⟨.agg out', ?_, .agg _ _ b⟩
          have e5 : (fun (j : Nat) => (List.toArray pl)[j]?) = fun (j : Nat) => pl[j]? := by funext j; simp
          simp [hE.run_zero hi, hund, Array.mapM_eq_mapM_toList, hmap, e5, a]
    | array n e =>
      rw [hu] at h hund
      simp only [] at h
      cases he : E.ti.get e with
      | none => rw [he] at h; cases h
      | some ei =>
        rw [he] at h
        simp only [] at h
        cases hf : fillA (fun j => some (Nat.mul j ei.size, ei.size)) (cellsOf i.zero) ps with
        | none => rw [hf] at h; cases h
        | some cs =>
          rw [hf] at h
          simp only [Option.some.injEq] at h
          subst h
          obtain ⟨out', a, b⟩ := fill_sound (place := fun j => some (Nat.mul j ei.size, ei.size)) ps ps'.toList _ i.zero.cells cs hf hp hz
          refine ⟨.agg out', ?_, .agg _ _ b⟩
          have e5 : (fun j => some (j * ei.size, ei.size)) = fun j => some (Nat.mul j ei.size, ei.size) := rfl
          simp [hE.run_zero hi, hund, hE.run_size he, e5, a]
    | _ => rw [hu] at h; cases h

theorem minmax_sound {isMax : Bool} {x y x' y' v : Value} (h : minmax isMax x y = some v) (hx : VR μ x x') (hy : VR μ y y') :
    Pur P μ w (if isMax = true then Builtin.max2 x' y' else Builtin.min2 x' y') v := by
  unfold minmax at h
  split at h
  · cases hx; cases hy
    simp only [Option.some.injEq] at h
    subst h
    cases isMax
    · exact ⟨_, by simp [Builtin.min2], .int _ _⟩
    · exact ⟨_, by simp [Builtin.max2], .int _ _⟩
  · cases isMax with
    | true => cases h
    | false =>
      simp only [cond_false] at h
      split at h
      · rename_i y hy0
        simp only [Option.some.injEq] at h
        subst h
        cases hy
        cases hx with
        | high _ _ _ n hn =>
          refine ⟨.int .i64 (if y < n then y else n), by simp [Builtin.min2], .high _ _ _ _ (fun _ => ?_)⟩
          split <;> omega
      · cases h
  · cases h

theorem foldMM_sound {isMax : Bool} : ∀ (l : List Value) (l' : List Value) (x x' v : Value), l.foldlM (minmax isMax) x = some v → VR μ x x' → VRL μ l l' →
    Pur P μ w (l'.foldlM (fun a b => if isMax = true then Builtin.max2 a b else Builtin.min2 a b) x') v
  | [], _, x, x', v, h, hx, hl => by
    cases hl
    simp only [List.foldlM_nil] at h
    have : x = v := by simpa using h
    subst this
    exact ⟨x', rfl, hx⟩
  | y :: r, _, x, x', v, h, hx, hl => by
    cases hl with
    | cons hy ht =>
      simp only [List.foldlM_cons] at h
      cases hm : minmax isMax x y with
      | none => rw [hm] at h; cases h
      | some u =>
        rw [hm] at h
        obtain ⟨u', a, b⟩ := minmax_sound (P := P) (w := w) hm hx hy
        obtain ⟨v', c, d⟩ := foldMM_sound r _ u u' v h b ht
        exact ⟨v', by simp [List.foldlM_cons, a, c], d⟩

end
end Go.Det
