/- Iterators. -/
import Derived.Test.YtofiafmbiedjnaaGreatDoorDetOps10
set_option autoImplicit false
namespace Go.Det

section
variable {P : Program} {E : Env} {μ : Ren} {st : St} {w : World} {base : Nat}

/-- An object that is no row of cells, laid anew. -/
theorem HR.newObj (hr : HR μ st w.heap base) {o : AObj} {b : Nat} {st' : St} (hp : st.push o = some (b, st')) (hc : clsOf o = none) {o' : Obj} (ho : ObjR (upd μ st.next ⟨w.heap.size, 0, 0, 0⟩) o ⟨w.heap.size, 0, 0, 0⟩ o') :
    ∃ μ', HR μ' st' (w.alloc o').heap base ∧ Ex μ st w μ' st' (w.alloc o') base ∧ μ' b = some ⟨w.heap.size, 0, 0, 0⟩ := by
  obtain ⟨rfl, hn, hcl, hh⟩ := St.push_spec hp
  exact ⟨_, hr.more (L := ⟨w.heap.size, 0, 0, 0⟩) hn hh (.inl ⟨hc, hcl⟩) rfl ho, Ex.more hr hn hh rfl rfl rfl, upd_self _ _ _⟩

theorem range_sound (hE : EnvOK P E) (hr : HR μ st w.heap base) {t : TypeId} {x x' v : Value} {st' : St} (h : rangeA E st t x = some (v, st')) (hx : VR μ x x') : Snd P μ st w base (Instr.range t x') v st' := by
  unfold rangeA at h
  cases hi : E.ti.get t with
  | none => rw [hi] at h; cases h
  | some i =>
    rw [hi] at h
    simp only [] at h
    have hund := hE.run_und hi w
    have fin : ∀ (o : AObj) (o' : Obj), clsOf o = none → (match some o with
        | some o => match st.push o with
          | some (b, st') => some (ptr b, st')
          | none => none
        | none => none : Option (Value × St)) = some (v, st') → (∀ μ', Sub μ μ' → ObjR μ' o ⟨w.heap.size, 0, 0, 0⟩ o') →
        ∃ b μ', v = ptr b ∧ HR μ' st' (w.alloc o').heap base ∧ Ex μ st w μ' st' (w.alloc o') base ∧ μ' b = some ⟨w.heap.size, 0, 0, 0⟩ := by
      intro o o' hc h ho
      simp only [] at h
      cases hp : st.push o with
      | none => rw [hp] at h; cases h
      | some q =>
        obtain ⟨b, s⟩ := q
        rw [hp] at h
        simp only [Option.some.injEq, Prod.mk.injEq] at h
        obtain ⟨rfl, rfl⟩ := h
        obtain ⟨μ', a, c, d⟩ := HR.newObj hr hp hc (ho _ (sub_upd _ (hr.fresh _ (Nat.le_refl _))))
        exact ⟨b, μ', rfl, a, c, d⟩
    cases hu : i.und with
    | string =>
      rw [hu] at h hund
      cases hx with
      | string s =>
        obtain ⟨b, μ', rfl, g1, g2, g3⟩ := fin (.strIter s 0) (.stringIter s 0) rfl h (fun μ' _ => ⟨rfl, rfl⟩)
        refine ⟨_, _, μ', ?_, VR.ptr0 g3, g1, g2⟩
        simp only [Instr.range, Sem.run_bind, hund, Result.andThen_ok, Sem.run_pure, run_newObj_alloc]
      | _ => cases h
    | map kt et =>
      rw [hu] at h hund
      cases hx with
      | mnil =>
        obtain ⟨b, μ', rfl, g1, g2, g3⟩ := fin (.mapIter none 0 [] none 0) (.mapIter none 0 #[] 0) rfl h (fun μ' _ => ⟨rfl, _, _, rfl, rfl, by simp, rfl⟩)
        refine ⟨_, _, μ', ?_, VR.ptr0 g3, g1, g2⟩
        simp only [Instr.range, Sem.run_bind, hund, Result.andThen_ok, Sem.run_pure, run_newObj_alloc]
      | map m M hM =>
        simp only [] at h
        cases hg : st.heap.get m with
        | none => rw [hg] at h; cases h
        | some om =>
          rw [hg] at h
          cases om with
          | map es clock =>
            obtain ⟨es', hes0, hes, hget⟩ := getMap (P := P) hr hM hg
            obtain ⟨b, μ', rfl, g1, g2, g3⟩ := fin (.mapIter (some m) clock [] none clock) (.mapIter (some M.blk) clock #[] clock) rfl h (fun μ' hs => ⟨rfl, _, _, rfl, ⟨M, hs.1 _ _ hM, rfl⟩, by simp, rfl⟩)
            refine ⟨_, _, μ', ?_, VR.ptr0 g3, g1, g2⟩
            simp only [Instr.range, Sem.run_bind, hund, Result.andThen_ok, Sem.run_pure, hget, run_newObj_alloc]
          | _ => cases h
      | _ => cases h
    | _ => rw [hu] at h; cases x <;> cases h

theorem run_choose_next (k : Nat) (hk : 0 < k) (w : World) : ∃ i w', (choose (.mapNext k)).run P w = .ok i w' ∧ i < k ∧ w'.heap = w.heap ∧ w'.os = w.os ∧ w'.output = w.output := by
  rw [run_choose_drew]
  by_cases h : k ≤ 1
  · have : (Question.mapNext k).forced = true := by simp [Question.forced, h]
    rw [if_pos this]
    exact ⟨0, w, rfl, hk, rfl, rfl, rfl⟩
  · have : ¬ (Question.mapNext k).forced = true := by simp [Question.forced, h]
    rw [if_neg this]
    exact ⟨_, w.drew, rfl, Nat.mod_lt _ hk, rfl, rfl, rfl⟩

theorem insNat_mem (n : Nat) : ∀ (l : List Nat) (x : Nat), x ∈ insNat n l ↔ x = n ∨ x ∈ l
  | [], x => by simp [insNat]
  | m :: l, x => by
    simp only [insNat]
    cases Nat.ble n m with
    | true => simp
    | false =>
      simp only [cond_false, List.mem_cons, insNat_mem n l x]
      constructor
      · rintro (h | h | h)
        · exact .inr (.inl h)
        · exact .inl h
        · exact .inr (.inr h)
      · rintro (h | h | h)
        · exact .inr (.inl h)
        · exact .inl h
        · exact .inr (.inr h)

theorem nextEach_spec {r m since clock : Nat} {seen : List Nat} : ∀ (l : List MapEntry) (out : List (Value × St)), nextEach st r m since seen clock l = some out →
    ∀ e ∈ l, e.born < since ∧ ∃ h, st.heap.set r (.mapIter (some m) since (insNat e.born seen) (some e.born) clock) = some h ∧ ((.tuple #[.bool true, e.key, e.val] : Value), ({ st with heap := h } : St)) ∈ out
  | [], out, _, e, he => by cases he
  | e0 :: l, out, h, e, he => by
    simp only [nextEach] at h
    cases h1 : nextEach st r m since seen clock l with
    | none => rw [h1] at h; cases h
    | some o =>
      cases h2 : st.heap.set r (.mapIter (some m) since (insNat e0.born seen) (some e0.born) clock) with
      | none => rw [h1, h2] at h; cases h
      | some hp =>
        rw [h1, h2] at h
        simp only [] at h
        cases h3 : Nat.blt e0.born since with
        | false => rw [h3] at h; cases h
        | true =>
          rw [h3] at h
          simp only [cond_true, Option.some.injEq] at h
          subst h
          rcases List.mem_cons.1 he with rfl | he
          · exact ⟨by simpa [Nat.blt_eq] using h3, hp, h2, by simp⟩
          · obtain ⟨a, h', b, c⟩ := nextEach_spec l o h1 e he
            exact ⟨a, h', b, by simp [c]⟩

theorem next_sound (hr : HR μ st w.heap base) {it it' : Value} {isStr : Bool} {ty : TypeId} {l : List (Value × St)} (h : nextA st it isStr = some l) (hit : VR μ it it') :
    ∃ v' w', (Instr.next it' isStr ty).run P w = .ok v' w' ∧ ∃ x ∈ l, VR μ x.1 v' ∧ HR μ x.2 w'.heap base ∧ Ex μ st w μ x.2 w' base := by
  unfold nextA at h
  split at h
  · rename_i r
    cases hit with
    | ptr _ _ L hb =>
      cases hg : st.heap.get r with
      | none => rw [hg] at h; cases isStr <;> cases h
      | some ob =>
        rw [hg] at h
        obtain ⟨o', ho', hR⟩ := hr.obj r L _ hb hg
        cases ob with
        | strIter s pos =>
          cases isStr with
          | false => cases h
          | true =>
            simp only [] at h
            obtain ⟨hoff, rfl⟩ := hR
            have hget := run_getObj_any (P := P) ho' (by intro a b c e; cases e)
            by_cases hlt : pos < s.size
            · rw [if_pos hlt] at h
              rcases hdec : Utf8.decode s pos with ⟨c, wd⟩
              rw [hdec] at h
              simp only [] at h
              cases hs : st.heap.set r (.strIter s (pos + wd)) with
              | none => rw [hs] at h; cases h
              | some hp =>
                rw [hs] at h
                simp only [Option.some.injEq] at h
                subst h
                obtain ⟨g1, g2⟩ := HR.setObj hr (o' := .stringIter s (pos + wd)) hb hg rfl rfl hs rfl ⟨hoff, rfl⟩
                refine ⟨.tuple #[.bool true, goInt pos, .int .i32 c], _, ?_, _, List.mem_singleton.2 rfl, .tuple _ _ (.cons (.bool _) (.cons (.int _ _) (.cons (.int _ _) .nil))), g1, g2⟩
                have hset := run_setObj_any (P := P) (.stringIter s (pos + wd)) ho' (by intro a b c e; cases e)
                simp [Instr.next, hoff, hget, hlt, hdec, hset]
            · rw [if_neg hlt] at h
              simp only [Option.some.injEq] at h
              subst h
              refine ⟨.tuple #[.bool false], w, ?_, _, List.mem_singleton.2 rfl, .tuple _ _ (.cons (.bool _) .nil), hr, Ex.refl _ _ _ _⟩
              simp [Instr.next, hoff, hget, hlt]
        | mapIter m since seen last stepped =>
          cases isStr with
          | true => cases m <;> cases h
          | false =>
            obtain ⟨hoff, m', seen', rfl, hm, hseen, hlast⟩ := hR
            have hget := run_getObj_any (P := P) ho' (by intro a b c e; cases e)
            cases m with
            | none =>
              simp only [Option.some.injEq] at h
              subst h
              have : m' = none := hm
              subst this
              refine ⟨.tuple #[.bool false], w, ?_, _, List.mem_singleton.2 rfl, .tuple _ _ (.cons (.bool _) .nil), hr, Ex.refl _ _ _ _⟩
              simp [Instr.next, hoff, hget]
            | some mb =>
              obtain ⟨M, hM, rfl⟩ := hm
              simp only [] at h
              cases hgm : st.heap.get mb with
              | none => rw [hgm] at h; cases h
              | some om =>
                rw [hgm] at h
                cases om with
                | map es clock =>
                  simp only [] at h
                  obtain ⟨es', hes0, hes, hgetm⟩ := getMap (P := P) hr hM hgm
                  split at h
                  · cases h
                  rename_i hcond
                  have e1 : seen'.isEmpty = seen.isEmpty := by
                    rw [Bool.eq_iff_iff, Array.isEmpty_iff, List.isEmpty_iff]
                    constructor
                    · intro e
                      cases seen with
                      | nil => rfl
                      | cons x y => have := (hseen x).2 (by simp); rw [e] at this; simp at this
                    · intro e
                      subst e
                      cases hq : seen'.toList with
                      | nil => exact Array.toList_eq_nil_iff.1 hq
                      | cons x y => have := (hseen x).1 (by rw [hq]; simp); simp at this
                  have e2 : es'.isEmpty = es.isEmpty := by
                    have := hes.length
                    simp only [Array.length_toList] at this
                    rw [Bool.eq_iff_iff, Array.isEmpty_iff_size_eq_zero, List.isEmpty_iff, ← List.length_eq_zero_iff, this]
                  have e3 : (es'.all fun x => decide (x.born ≥ stepped)) = es.all fun x => decide (x.born ≥ stepped) := by
                    rw [← Array.all_toList]
                    exact hes.all (fun e e' hb => by rw [hb])
                  have hcond' : (!seen'.isEmpty && !es'.isEmpty && es'.all fun x => decide (x.born ≥ stepped)) = false := by
                    rw [e1, e2, e3]; simpa using hcond
                  have hcont : ∀ n, seen'.contains n = seen.contains n := by
                    intro n
                    rw [Bool.eq_iff_iff]
                    simp only [Array.contains_iff_mem, List.contains_iff_mem]
                    rw [← Array.mem_toList_iff]
                    exact hseen n
                  have hleft : EntriesR μ (es.filter fun e => !seen.contains e.born) (es'.filter fun e => !seen'.contains e.born).toList := by
                    rw [Array.toList_filter]
                    exact hes.filter (fun e e' hb => by rw [hb, hcont])
                  generalize hl1 : (es.filter fun e => !seen.contains e.born) = left at h hleft
                  generalize hl2 : (es'.filter fun e => !seen'.contains e.born) = left' at hleft
                  cases left with
                  | nil =>
                    have hnil : left' = #[] := by
                      generalize hq : left'.toList = q at hleft
                      cases hleft
                      exact Array.toList_eq_nil_iff.1 hq
                    subst hnil
                    simp only [] at h
                    cases hs : st.heap.set r .dead with
                    | none => rw [hs] at h; cases h
                    | some hp =>
                      rw [hs] at h
                      simp only [Option.some.injEq] at h
                      subst h
                      obtain ⟨g1, g2⟩ := HR.setObj hr (o' := .mapIter (some M.blk) since seen' stepped) hb hg rfl rfl hs rfl trivial
                      rw [putObj_self ho'] at g1 g2
                      refine ⟨.tuple #[.bool false], w, ?_, _, List.mem_singleton.2 rfl, .tuple _ _ (.cons (.bool _) .nil), g1, g2⟩
                      have hch : (choose (.mapNext 1)).run P w = .ok 0 w := by rw [run_choose_drew]; rfl
                      simp only [Instr.next, hoff, Nat.zero_add, Nat.add_zero, Sem.run_bind, hget, Result.andThen_ok, hgetm]
                      rw [hcond']
                      simp only [Bool.false_eq_true, if_false, hl2]
                      have hf : ∀ q : MapEntry → Bool, (#[] : Array MapEntry).filter q = #[] := fun q => by simp
                      simp only [hf, Array.isEmpty_empty, if_true, Array.map_empty, Array.append_empty, Array.empty_append, Sem.run_bind]
                      have hsz1 : (#[(none : Option MapEntry)]).size = 1 := rfl
                      simp only [hsz1, hch, Result.andThen_ok]
                      rfl
                  | cons e0 l0 =>
                    simp only [] at h
                    have hspec := nextEach_spec _ _ h
                    have hlen := hleft.length
                    simp only [Array.length_toList, List.length_cons] at hlen
                    have hold : ∀ x ∈ left'.toList, decide (x.born < since) = true := by
                      intro x hx
                      obtain ⟨i, hi⟩ := List.mem_iff_getElem?.1 hx
                      have hi2 : i < (e0 :: l0).length := by
                        have := (List.getElem?_eq_some_iff.1 hi).1
                        rw [hleft.length] at this; exact this
                      obtain ⟨x', q1, q2⟩ := hleft.get (List.getElem?_eq_getElem hi2)
                      rw [hi] at q1; cases q1
                      have := (hspec _ (List.getElem_mem hi2)).1
                      rw [q2.born]; simpa using this
                    have ho1 : left'.filter (fun x => decide (x.born < since)) = left' := by
                      rw [Array.filter_eq_self]
                      intro a ha
                      exact hold a (Array.mem_toList_iff.2 ha)
                    have ho2 : left'.filter (fun x => decide (x.born ≥ since)) = #[] := by
                      rw [Array.filter_eq_empty_iff]
                      intro a ha
                      have := hold a (Array.mem_toList_iff.2 ha)
                      simp at this ⊢
                      omega
                    obtain ⟨i, w1, hch, hi, hw1, hos1, hout1⟩ := run_choose_next (P := P) (l0.length + 1) (by omega) w
                    have hi2 : i < (e0 :: l0).length := by simpa using hi
                    obtain ⟨e', q1, q2⟩ := hleft.get (List.getElem?_eq_getElem hi2)
                    have q1' : left'[i]? = some e' := by rw [← Array.getElem?_toList]; exact q1
                    obtain ⟨_, hp, hs, hmem⟩ := hspec _ (List.getElem_mem hi2)
                    have hr1 : HR μ st w1.heap base := by rw [hw1]; exact hr
                    obtain ⟨g1, g2⟩ := HR.setObj hr1 (o' := .mapIter (some M.blk) since (seen'.push e'.born) clock) hb hg rfl rfl hs rfl
                      ⟨hoff, _, _, rfl, ⟨M, hM, rfl⟩, fun x => by
                        rw [insNat_mem, Array.toList_push, List.mem_append, List.mem_singleton, hseen x, q2.born]
                        constructor
                        · rintro (h | h)
                          · exact .inr h
                          · exact .inl h
                        · rintro (h | h)
                          · exact .inr h
                          · exact .inl h, by rw [Array.toList_push]; simp [q2.born]⟩
                    refine ⟨.tuple #[.bool true, e'.key, e'.val], _, ?_, _, hmem, .tuple _ _ (.cons (.bool _) (.cons q2.key (.cons q2.val .nil))), g1, (Ex.world hw1 hos1 hout1).trans g2⟩
                    have hset := run_setObj_any (P := P) (w := w1) (.mapIter (some M.blk) since (seen'.push e'.born) clock) (by rw [hw1]; exact ho') (by intro a b c e; cases e)
                    have hne : left'.isEmpty = false := by
                      rw [Bool.eq_false_iff]
                      intro e
                      rw [Array.isEmpty_iff] at e
                      rw [e] at hlen; simp at hlen
                    simp only [Instr.next, hoff, Nat.zero_add, Nat.add_zero, Sem.run_bind, hget, Result.andThen_ok, hgetm]
                    rw [hcond']
                    simp only [Bool.false_eq_true, if_false, hl2, ho1, ho2, hne]
                    simp only [Array.append_empty, Array.empty_append, Array.size_map, hlen, Sem.run_bind, hch, Result.andThen_ok, Array.getElem?_map, q1', Option.map_some, hset, Sem.run_pure]
                | _ => cases h
        | _ => cases isStr <;> cases h
  · cases h

theorem find_born {s : Nat} : ∀ {l l' : List MapEntry}, EntriesR μ l l' → ∀ {e : MapEntry}, l.find? (·.born == s) = some e → ∃ e', l'.find? (·.born == s) = some e' ∧ EntryR μ e e' := by
  intro l l' h
  induction h with
  | nil => intro e he; simp at he
  | cons a t ih =>
    rename_i x x' l l'
    intro e he
    rw [List.find?_cons] at he ⊢
    rw [a.born]
    cases hc : x.born == s with
    | true =>
      rw [hc] at he
      simp only [Option.some.injEq] at he
      subst he
      exact ⟨x', rfl, a⟩
    | false =>
      rw [hc] at he
      simp only [] at he ⊢
      exact ih he

theorem entry_sound (hr : HR μ st w.heap base) {it it' v : Value} (h : entryA st it = some v) (hit : VR μ it it') : Pur P μ w (Instr.entry it') v := by
  unfold entryA at h
  split at h
  · rename_i r
    cases hit with
    | ptr _ _ L hb =>
      cases hg : st.heap.get r with
      | none => rw [hg] at h; cases h
      | some ob =>
        rw [hg] at h
        obtain ⟨o', ho', hR⟩ := hr.obj r L _ hb hg
        cases ob with
        | mapIter m since seen last stepped =>
          cases m with
          | none => cases h
          | some mb =>
            obtain ⟨hoff, m', seen', rfl, ⟨M, hM, rfl⟩, hseen, hlast⟩ := hR
            have hget := run_getObj_any (P := P) ho' (by intro a b c e; cases e)
            cases last with
            | none => simp only [] at h; cases h
            | some stamp =>
              simp only [] at h
              cases hgm : st.heap.get mb with
              | none => rw [hgm] at h; cases h
              | some om =>
                rw [hgm] at h
                cases om with
                | map es clock =>
                  simp only [] at h
                  obtain ⟨es', hes0, hes, hgetm⟩ := getMap (P := P) hr hM hgm
                  split at h
                  · cases h
                  rename_i hck
                  have hck' : clock = stepped := by
                    by_cases e : clock = stepped
                    · exact e
                    · exact absurd e hck
                  cases hf : es.find? (·.born == stamp) with
                  | none => rw [hf] at h; cases h
                  | some e =>
                    rw [hf] at h
                    simp only [Option.some.injEq] at h
                    subst h
                    obtain ⟨e', q1, q2⟩ := find_born hes hf
                    have q1' : es'.find? (·.born == stamp) = some e' := by rw [← Array.find?_toList]; exact q1
                    have hback : seen'.back? = some stamp := by rw [← Array.getLast?_toList]; exact hlast
                    refine ⟨.tuple #[e'.key, e'.val], ?_, .tuple _ _ (.cons q2.key (.cons q2.val .nil))⟩
                    simp [Instr.entry, hoff, hget, hback, hgetm, hck', q1']
                | _ => cases h
        | _ => cases h
  · cases h

end
end Go.Det
