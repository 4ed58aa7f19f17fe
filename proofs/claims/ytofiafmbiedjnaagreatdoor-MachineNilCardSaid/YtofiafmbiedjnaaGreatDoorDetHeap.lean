/- Writing to the heap, on both sides. -/
import Derived.Test.YtofiafmbiedjnaaGreatDoorDetRel
import Derived.RangeFuncRecord
set_option autoImplicit false
namespace Go.Det

/-! ### A class dies but for one -/
theorem foldDead_spec : ∀ (l : List Nat) (h h' : Tr AObj), l.foldlM (fun (h : Tr AObj) x => h.set x .dead) h = some h' → ∀ m, h'.get m = if m ∈ l then some .dead else h.get m := by
  intro l
  induction l with
  | nil => intro h h' e m; simp at e; subst e; simp
  | cons x r ih =>
    intro h h' e m
    simp only [List.foldlM_cons] at e
    cases hx : h.set x .dead with
    | none => rw [hx] at e; cases e
    | some h1 =>
      rw [hx] at e
      have := ih h1 h' e m
      rw [this, Tr.get_set hx]
      by_cases a : m ∈ r
      · simp [a]
      · by_cases c : m = x
        · simp [c]
        · simp [a, c]

theorem St.kill_spec {st st' : St} {b k : Nat} (h : st.kill b k = some st') :
    ∃ l, st.cls.get k = some l ∧ st'.next = st.next ∧ (∀ m, st'.heap.get m = if m ∈ l ∧ m ≠ b then some .dead else st.heap.get m) ∧
      (∀ j, st'.cls.get j = if j = k then some [b] else st.cls.get j) := by
  unfold St.kill at h
  cases hc : st.cls.get k with
  | none => rw [hc] at h; cases h
  | some l =>
    rw [hc] at h
    have gen : ∀ l : List Nat, (match (l.filter (fun x => !Nat.beq x b)).foldlM (fun (h : Tr AObj) x => h.set x .dead) st.heap, st.cls.set k [b] with
        | some h, some k => some { st with heap := h, cls := k }
        | _, _ => none) = some st' → st'.next = st.next ∧ (∀ m, st'.heap.get m = if m ∈ l ∧ m ≠ b then some .dead else st.heap.get m) ∧
      (∀ j, st'.cls.get j = if j = k then some [b] else st.cls.get j) := by
      intro l h
      cases hf : (l.filter (fun x => !Nat.beq x b)).foldlM (fun (h : Tr AObj) x => h.set x .dead) st.heap with
      | none => rw [hf] at h; cases h
      | some h1 =>
        cases hk : st.cls.set k [b] with
        | none => rw [hf, hk] at h; cases h
        | some k1 =>
          rw [hf, hk] at h
          simp only [Option.some.injEq] at h
          subst h
          refine ⟨rfl, fun m => ?_, fun j => Tr.get_set hk j⟩
          rw [foldDead_spec _ _ _ hf m]
          have e : (m ∈ l.filter (fun x => !Nat.beq x b)) ↔ (m ∈ l ∧ m ≠ b) := by
            rw [List.mem_filter]
            have e2 : (!Nat.beq m b) = true ↔ m ≠ b := by
              rw [Bool.not_eq_true', ← Bool.not_eq_true, Nat.beq_eq]
            rw [e2]
          simp only [e]
    refine ⟨l, rfl, ?_⟩
    match l, h with
    | [], h => exact gen [] h
    | [x], h =>
      cases hx : Nat.beq x b with
      | false => simp only [hx, cond_false] at h; cases h
      | true =>
        simp only [hx, cond_true, Option.some.injEq] at h
        subst h
        have e : x = b := Nat.eq_of_beq_eq_true hx
        subst e
        refine ⟨rfl, fun m => ?_, fun j => ?_⟩
        · have : ¬ (m ∈ [x] ∧ m ≠ x) := by simp
          rw [if_neg this]
        · by_cases ej : j = k
          · rw [if_pos ej, ej, hc]
          · rw [if_neg ej]
    | x :: y :: r, h => exact gen (x :: y :: r) h

theorem HR.kill {μ : Ren} {st st' : St} {h : Array Obj} {base b k : Nat} {o : AObj} (hr : HR μ st h base) (hk : st.kill b k = some st') (ho : st.heap.get b = some o) (hc : clsOf o = some k) :
    HR μ st' h base ∧ st'.heap.get b = some o ∧
    (∀ c L M p, μ b = some L → μ c = some M → st'.heap.get c = some p → isLive p = true → c ≠ b → M.blk ≠ L.blk) ∧
    (∀ g, g < st.next → μ g = none → st'.heap.get g = st.heap.get g) ∧ st'.next = st.next := by
  obtain ⟨l, hl, hn, hh, hj⟩ := St.kill_spec hk
  obtain ⟨hkn, l', hl', hbl⟩ := hr.cls b o k ho hc
  rw [hl] at hl'; cases hl'
  have hself : st'.heap.get b = some o := by rw [hh]; simp [ho]
  have hsame : ∀ m p, st'.heap.get m = some p → isLive p = true → st.heap.get m = some p ∧ ¬ (m ∈ l ∧ m ≠ b) := by
    intro m p hm hp
    rw [hh] at hm
    by_cases e : m ∈ l ∧ m ≠ b
    · rw [if_pos e] at hm; cases hm; cases hp
    · rw [if_neg e] at hm; exact ⟨hm, e⟩
  have hlt : ∀ c L, μ c = some L → c < st.next := fun c L hc => by
    rcases Nat.lt_or_ge c st.next with g | g
    · exact g
    · rw [hr.fresh c g] at hc; cases hc
  have hmem : ∀ m, m ∈ l → m ≠ b → ∃ L, μ m = some L := by
    intro m hm hmb
    rcases hr.clsIn k l m hl hm with g | g
    · exact g
    · rw [g] at hbl; have : b = m := by simpa using hbl
      exact absurd this.symm hmb
  have hlive : ∀ p k', clsOf p = some k' → isLive p = true := by
    intro p k' hp; cases p <;> first | rfl | (simp [clsOf] at hp)
  refine ⟨⟨?_, hr.inn, ?_, ?_, ?_, ?_, ?_, hr.le⟩, hself, ?_, ?_, hn⟩
  · intro c hcn; exact hr.fresh c (by omega)
  · intro m p hm
    rw [hh] at hm
    by_cases e : m ∈ l ∧ m ≠ b
    · obtain ⟨L, hL⟩ := hmem m e.1 e.2
      have := hlt m L hL; omega
    · rw [if_neg e] at hm; have := hr.heapIn m p hm; omega
  · intro c L p hL hp
    cases hpl : isLive p with
    | true => exact hr.obj c L p hL (hsame c p hp hpl).1
    | false =>
      have : p = .dead := by cases p <;> first | rfl | cases hpl
      subst this
      have := (hr.inn c L hL).2
      exact ⟨h[L.blk], by simp [this], trivial⟩
  · intro c d L M p q hL hM hp hq lp lq hne hblk
    exact hr.sep c d L M p q hL hM (hsame c p hp lp).1 (hsame d q hq lq).1 lp lq hne hblk
  · intro c p k' hp hk'
    have lp := hlive p k' hk'
    obtain ⟨hp', hnot⟩ := hsame c p hp lp
    obtain ⟨a, l2, g, m⟩ := hr.cls c p k' hp' hk'
    refine ⟨by omega, ?_⟩
    rw [hj]
    by_cases e : k' = k
    · subst e
      rw [hl] at g; cases g
      have : c = b := by
        by_cases x : c = b
        · exact x
        · exact absurd ⟨m, x⟩ hnot
      exact ⟨[b], by simp, by simp [this]⟩
    · rw [if_neg e]; exact ⟨l2, g, m⟩
  · intro j l2 c hj2 hc2
    rw [hj] at hj2
    by_cases e : j = k
    · rw [if_pos e] at hj2; cases hj2
      have : c = b := by simpa using hc2
      exact .inr (by rw [this])
    · rw [if_neg e] at hj2; exact hr.clsIn j l2 c hj2 hc2
  · intro c L M p hL hM hp lp hcb hblk
    obtain ⟨hp', hnot⟩ := hsame c p hp lp
    obtain ⟨k', hk1, hk2⟩ := hr.sep c b M L p o hM hL hp' ho lp (hlive o k hc) hcb hblk
    rw [hc] at hk2; cases hk2
    obtain ⟨_, l2, g, m⟩ := hr.cls c p k hp' hk1
    rw [hl] at g; cases g
    exact hnot ⟨m, hcb⟩
  · intro g hg hmu
    rw [hh]
    by_cases e : g ∈ l ∧ g ≠ b
    · obtain ⟨L, hL⟩ := hmem g e.1 e.2
      rw [hmu] at hL; cases hL
    · rw [if_neg e]

/-- One object is another one: nobody else's place turns. -/
theorem HR.turn {μ : Ren} {st : St} {t' : Tr AObj} {h : Array Obj} {base b : Nat} {L : Loc} {o p : AObj} {o' : Obj} (hr : HR μ st h base) (hb : μ b = some L) (ho : st.heap.get b = some o)
    (hset : st.heap.set b p = some t') (hcls : clsOf p = clsOf o ∨ clsOf p = none) (hlone : ∀ c M q, μ c = some M → st.heap.get c = some q → isLive q = true → c ≠ b → M.blk ≠ L.blk)
    (hobj : ObjR μ p L o') : HR μ { st with heap := t' } (h.setIfInBounds L.blk o') base := by
  have hsz := (hr.inn b L hb).2
  have hget : ∀ m, t'.get m = if m = b then some p else st.heap.get m := fun m => Tr.get_set hset m
  have hbn := hr.heapIn b o ho
  refine ⟨hr.fresh, ?_, ?_, ?_, ?_, ?_, hr.clsIn, by simpa using hr.le⟩
  · intro c M hc; simpa using hr.inn c M hc
  · intro c q hc
    simp only [] at hc
    rw [hget] at hc
    by_cases e : c = b
    · subst e; exact hbn
    · rw [if_neg e] at hc; exact hr.heapIn c q hc
  · intro c M q hM hq
    simp only [] at hq
    rw [hget] at hq
    by_cases e : c = b
    · subst e; rw [hb] at hM; cases hM
      rw [if_pos rfl] at hq; cases hq
      exact ⟨o', by simp [hsz], hobj⟩
    · rw [if_neg e] at hq
      obtain ⟨q', a, r⟩ := hr.obj c M q hM hq
      by_cases el : M.blk = L.blk
      · cases lq : isLive q with
        | true => exact absurd el (hlone c M q hM hq lq e)
        | false =>
          have : q = .dead := by cases q <;> first | rfl | cases lq
          subst this
          exact ⟨o', by rw [el]; simp [hsz], trivial⟩
      · exact ⟨q', by rw [Array.getElem?_setIfInBounds_ne (Ne.symm el)]; exact a, r⟩
  · intro c d M N q r hM hN hq hr' lq lr hne hblk
    simp only [] at hq hr'
    rw [hget] at hq hr'
    by_cases e : c = b
    · subst e
      have hd : d ≠ c := Ne.symm hne
      rw [if_neg hd] at hr'
      rw [hb] at hM; cases hM
      exact absurd hblk.symm (hlone d N r hN hr' lr hd)
    · by_cases e' : d = b
      · subst e'
        rw [if_neg e] at hq
        rw [hb] at hN; cases hN
        exact absurd hblk (hlone c M q hM hq lq e)
      · rw [if_neg e] at hq; rw [if_neg e'] at hr'
        exact hr.sep c d M N q r hM hN hq hr' lq lr hne hblk
  · intro c q k hq hk
    simp only [] at hq ⊢
    rw [hget] at hq
    by_cases e : c = b
    · subst e
      rw [if_pos rfl] at hq; cases hq
      rcases hcls with g | g
      · rw [g] at hk; exact hr.cls c o k ho hk
      · rw [g] at hk; cases hk
    · rw [if_neg e] at hq; exact hr.cls c q k hq hk

/-! ### Rows of cells that are written -/
def wr (c : Array Value) : Nat → List Value → Array Value
  | _, [] => c
  | o, v :: r => wr (c.setIfInBounds o v) (o + 1) r

theorem wr_size : ∀ (vs : List Value) (c : Array Value) (o : Nat), (wr c o vs).size = c.size
  | [], _, _ => rfl
  | v :: r, c, o => by simp [wr, wr_size r]

theorem wr_get : ∀ (vs : List Value) (c : Array Value) (o m : Nat), o + vs.length ≤ c.size → (wr c o vs)[m]? = if o ≤ m ∧ m < o + vs.length then vs[m - o]? else c[m]?
  | [], c, o, m, _ => by
    have : ¬ (o ≤ m ∧ m < o + ([] : List Value).length) := by simp only [List.length_nil]; omega
    simp only [wr]; rw [if_neg this]
  | v :: r, c, o, m, h => by
    simp only [List.length_cons] at h
    rw [wr, wr_get r _ (o + 1) m (by simp; omega)]
    by_cases e : m = o
    · subst e
      have h1 : ¬ (m + 1 ≤ m ∧ m < m + 1 + r.length) := by omega
      rw [if_neg h1, if_pos (by simp)]
      have : m < c.size := by omega
      simp [this]
    · by_cases g : o ≤ m ∧ m < o + (v :: r).length
      · have g' : o + 1 ≤ m ∧ m < o + 1 + r.length := by simp at g; omega
        rw [if_pos g', if_pos g]
        obtain ⟨k, rfl⟩ : ∃ k, m = o + 1 + k := ⟨m - (o + 1), by omega⟩
        have e1 : o + 1 + k - (o + 1) = k := by omega
        have e2 : o + 1 + k - o = k + 1 := by omega
        rw [e1, e2]; simp
      · have g' : ¬ (o + 1 ≤ m ∧ m < o + 1 + r.length) := by simp at g; omega
        rw [if_neg g', if_neg g]
        rw [Array.getElem?_setIfInBounds_ne (Ne.symm e)]

theorem setCell_put {w : World} {B o : Nat} {c : Array Value} {el : TypeId} {fz : Nat × Nat} {v : Value} (hB : w.heap[B]? = some (.cells c el fz)) :
    w.setCell ⟨B, o, none⟩ v = w.putObj B (.cells (c.setIfInBounds o v) el fz) := by
  have hlt : B < w.heap.size := by
    rcases Nat.lt_or_ge B w.heap.size with g | g
    · exact g
    · rw [Array.getElem?_eq_none g] at hB; cases hB
  have hv : w.heap[B] = .cells c el fz := by rw [Array.getElem?_eq_getElem hlt] at hB; exact Option.some.inj hB
  unfold World.setCell World.putObj
  congr 1
  apply Array.ext_getElem?
  intro i
  by_cases e : B = i
  · subst e
    rw [Array.getElem?_modify]
    simp [hlt, hv]
  · rw [Array.getElem?_setIfInBounds_ne e, Array.getElem?_modify]
    simp [e]

theorem putObj_self {w : World} {B : Nat} {o : Obj} (h : w.heap[B]? = some o) : w.putObj B o = w := by
  unfold World.putObj
  have : w.heap.setIfInBounds B o = w.heap := by
    apply Array.ext_getElem?
    intro i
    by_cases e : B = i
    · subst e
      have hlt : B < w.heap.size := by
        rcases Nat.lt_or_ge B w.heap.size with g | g
        · exact g
        · rw [Array.getElem?_eq_none g] at h; cases h
      rw [h]; simp [hlt]
    · rw [Array.getElem?_setIfInBounds_ne e]
  rw [this]

theorem putObj_putObj (w : World) (B : Nat) (o p : Obj) : (w.putObj B o).putObj B p = w.putObj B p := by
  unfold World.putObj
  simp

theorem noFrz {n : Nat} {fz : Nat × Nat} (h : fz.1 = fz.2 ∨ n ≤ fz.1) : ∀ x, x < n → ¬ (fz.1 ≤ x ∧ x < fz.2) := by
  intro x hx hc
  rcases h with h | h <;> omega

theorem run_storeCells {P : Program} {B off : Nat} {el : TypeId} {fz : Nat × Nat} : ∀ (vs : List Value) (i : Nat) (c : Array Value) (w : World),
    w.heap[B]? = some (.cells c el fz) → off + i + vs.length ≤ c.size → (∀ v ∈ vs, v.oneCell' = true) → (∀ x, x < c.size → ¬ (fz.1 ≤ x ∧ x < fz.2)) →
    (storeCells ⟨B, off, none⟩ vs i).run P w = .ok () (w.putObj B (.cells (wr c (off + i) vs) el fz)) := by
  intro vs
  induction vs with
  | nil => intro i c w hB _ _ _; simp only [storeCells, wr]; rw [putObj_self hB]; rfl
  | cons v r ih =>
    intro i c w hB hlen hfl hfz
    simp only [List.length_cons] at hlen
    have hlt : off + i < c.size := by omega
    simp only [storeCells, Sem.run_bind]
    rw [run_store P w _ v .plain (hfl v (by simp)), add_none]
    have hcell : w.cell? ⟨B, off + i, none⟩ = some c[off + i] := by simp [World.cell?, hB, hlt]
    have hfr : w.frozen? ⟨B, off + i, none⟩ = false := by
      have := hfz (off + i) hlt
      simp only [World.frozen?, hB]
      obtain ⟨lo, hi⟩ := fz
      simp only [] at this ⊢
      rw [Bool.eq_false_iff]
      intro hcon
      simp at hcon
      exact this hcon
    simp only [hcell, hfr, if_false, Bool.false_eq_true, Result.andThen_ok]
    rw [setCell_put hB]
    have hBlt : B < w.heap.size := by
      rcases Nat.lt_or_ge B w.heap.size with g | g
      · exact g
      · rw [Array.getElem?_eq_none g] at hB; cases hB
    have := ih (i + 1) (c.setIfInBounds (off + i) v) (w.putObj B (.cells (c.setIfInBounds (off + i) v) el fz)) (World.putObj_heap_same hBlt) (by simp; omega) (fun u hu => hfl u (by simp [hu])) (by simpa using hfz)
    rw [this, putObj_putObj]
    simp only [wr]
    rfl

theorem storeTree_spec : ∀ (vs : List Value) (c c' : Tr Value) (n i : Nat), storeTree c n vs i = some c' → (vs = [] ∨ i + vs.length ≤ n) ∧ (∀ v ∈ vs, flat v = true) ∧
    ∀ m, c'.get m = if i ≤ m ∧ m < i + vs.length then vs[m - i]? else c.get m
  | [], c, c', n, i, h => by
    simp [storeTree] at h; subst h
    refine ⟨.inl rfl, by simp, fun m => ?_⟩
    have : ¬ (i ≤ m ∧ m < i + ([] : List Value).length) := by simp only [List.length_nil]; omega
    rw [if_neg this]
  | v :: r, c, c', n, i, h => by
    simp only [storeTree] at h
    cases hb : (flat v && Nat.blt i n) with
    | false => rw [hb] at h; cases h
    | true =>
      rw [hb] at h
      simp only [cond_true] at h
      have hb' : flat v = true ∧ i < n := by simpa [Nat.blt_eq] using hb
      cases hs : c.set i v with
      | none => rw [hs] at h; cases h
      | some c1 =>
        rw [hs] at h
        obtain ⟨h1, h2, h3⟩ := storeTree_spec r c1 c' n (i + 1) h
        refine ⟨.inr ?_, ?_, fun m => ?_⟩
        · rcases h1 with e | e
          · subst e; simp; omega
          · simp; omega
        · intro u hu
          rcases List.mem_cons.1 hu with e | e
          · rw [e]; exact hb'.1
          · exact h2 u e
        · rw [h3, Tr.get_set hs]
          by_cases e : m = i
          · subst e
            rw [if_neg (by omega), if_pos rfl, if_pos (by simp)]
            simp
          · by_cases g : i ≤ m ∧ m < i + (v :: r).length
            · have g' : i + 1 ≤ m ∧ m < i + 1 + r.length := by simp at g; omega
              rw [if_pos g', if_pos g]
              obtain ⟨k, rfl⟩ : ∃ k, m = i + 1 + k := ⟨m - (i + 1), by omega⟩
              have e1 : i + 1 + k - (i + 1) = k := by omega
              have e2 : i + 1 + k - i = k + 1 := by omega
              rw [e1, e2]; simp
            · have g' : ¬ (i + 1 ≤ m ∧ m < i + 1 + r.length) := by simp at g; omega
              rw [if_neg g', if_neg g, if_neg e]

theorem VRL.flat {μ : Ren} {l l' : List Value} (h : VRL μ l l') (hf : ∀ v ∈ l, flat v = true) : ∀ v ∈ l', v.oneCell' = true := by
  induction l generalizing l' with
  | nil => cases h; simp
  | cons x r ih =>
    cases h with
    | cons a t =>
      intro v hv
      rcases List.mem_cons.1 hv with e | e
      · subst e; rw [a.flat_eq]; exact hf x (by simp)
      · exact ih t (fun u hu => hf u (by simp [hu])) v e

theorem HR.stores {P : Program} {μ : Ren} {st st' : St} {w : World} {base b o : Nat} {vs vs' : List Value} {L : Loc} (hr : HR μ st w.heap base) (hs : st.stores ⟨b, o, none⟩ vs = some st')
    (hb : μ b = some L) (hv : VRL μ vs vs') :
    ∃ w', (storeCells ⟨L.blk, L.off + o, none⟩ vs').run P w = .ok () w' ∧ HR μ st' w'.heap base ∧ Ex μ st w μ st' w' base := by
  cases vs with
  | nil =>
    cases hv
    simp only [St.stores, Option.some.injEq] at hs
    subst hs
    exact ⟨w, rfl, hr, Ex.refl _ _ _ _⟩
  | cons v0 r0 =>
    generalize hvs : v0 :: r0 = vs at hs hv
    have hne : vs ≠ [] := by rw [← hvs]; simp
    have hs' : (match st.heap.get b with
      | some (.cells n c sz el op false cls) =>
        match storeTree c n vs o, st.kill b cls with
        | some c', some st1 => match st1.heap.set b (.cells n c' sz el op false cls) with
          | some h => some { st1 with heap := h }
          | none => none
        | _, _ => none
      | _ => none) = some st' := by
      rw [← hvs] at hs ⊢
      simp only [St.stores] at hs
      cases hg : st.heap.get b with
      | none => rw [hg] at hs; cases hs
      | some ob =>
        rw [hg] at hs
        cases ob with
        | cells n c sz el op fz cls => cases fz with
          | false => exact hs
          | true => cases hs
        | _ => cases hs
    clear hs hvs
    cases hg : st.heap.get b with
    | none => rw [hg] at hs'; cases hs'
    | some x =>
      rw [hg] at hs'
      cases x with
      | cells n c sz el op fz cls =>
        cases fz with
        | true => cases hs'
        | false =>
          simp only [] at hs'
          cases ht : storeTree c n vs o with
          | none => rw [ht] at hs'; cases hs'
          | some c' =>
            cases hk : st.kill b cls with
            | none => rw [ht, hk] at hs'; cases hs'
            | some st1 =>
              rw [ht, hk] at hs'
              simp only [] at hs'
              cases hset : st1.heap.set b (.cells n c' sz el op false cls) with
              | none => rw [hset] at hs'; cases hs'
              | some hp =>
                rw [hset] at hs'
                simp only [Option.some.injEq] at hs'
                subst hs'
                obtain ⟨t1, t2, t3⟩ := storeTree_spec vs c c' n o ht
                have hlen : o + vs.length ≤ n := t1.resolve_left hne
                obtain ⟨hr1, hself, hlone, hghost, hnext⟩ := hr.kill hk hg rfl
                obtain ⟨o', ho', hR⟩ := hr.obj b L _ hb hg
                cases o' with
                | cells a el' fz' =>
                  obtain ⟨r1, r2, r3, r4, r5, r6⟩ := hR
                  have hl' : vs'.length = vs.length := hv.length
                  have hrun := run_storeCells (P := P) (off := L.off + o) vs' 0 a w ho' (by omega) (hv.flat t2) (noFrz (r6 rfl))
                  refine ⟨_, hrun, ?_, ?_⟩
                  · refine hr1.turn hb hself hset (.inl rfl) (fun c M q hM hq lq hne => hlone c L M q hb hM hq lq hne) ?_
                    refine ⟨by rw [wr_size]; exact r1, r2, r3, r4, fun i hi v hv' => ?_, fun _ => by rw [wr_size]; exact r6 rfl⟩
                    rw [t3] at hv'
                    rw [wr_get vs' a _ _ (by omega)]
                    by_cases e : o ≤ i ∧ i < o + vs.length
                    · rw [if_pos e] at hv'
                      rw [if_pos (by omega)]
                      obtain ⟨v', x, y⟩ := hv.get hv'
                      have : L.off + i - (L.off + o + 0) = i - o := by omega
                      rw [this]
                      exact ⟨v', x, y⟩
                    · rw [if_neg e] at hv'
                      rw [if_neg (by omega)]
                      exact r5 i hi v hv'
                  · refine ⟨Sub.refl _, fun g hg' hm => ⟨hm, ?_⟩, by simp [hnext], fun B hB => ?_, by simp, rfl, rfl⟩
                    · have hgb : g ≠ b := fun e => by rw [e, hb] at hm; cases hm
                      show hp.get g = _
                      rw [Tr.get_set_ne hset hgb]
                      exact hghost g hg' hm
                    · have := (hr.inn b L hb).1
                      exact World.putObj_heap_other (by omega)
                | _ => exact hR.elim
      | _ => cases hs'

end Go.Det
