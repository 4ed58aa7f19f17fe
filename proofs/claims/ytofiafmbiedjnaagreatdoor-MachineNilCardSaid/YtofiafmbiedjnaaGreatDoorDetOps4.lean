/- Operations on memory. -/
import Derived.Test.YtofiafmbiedjnaaGreatDoorDetOps3
import Derived.Laws.NewFold
import Derived.Laws.BitsLemmas
set_option autoImplicit false
namespace Go.Det

/-- A computation that comes to a value, in a world, as is said. -/
def Snd (P : Program) (μ : Ren) (st : St) (w : World) (base : Nat) (s : Sem Value) (v : Value) (st' : St) : Prop :=
  ∃ v' w' μ', s.run P w = .ok v' w' ∧ VR μ' v v' ∧ HR μ' st' w'.heap base ∧ Ex μ st w μ' st' w' base

def SndU (P : Program) (μ : Ren) (st : St) (w : World) (base : Nat) (s : Sem Unit) (st' : St) : Prop :=
  ∃ w' μ', s.run P w = .ok () w' ∧ HR μ' st' w'.heap base ∧ Ex μ st w μ' st' w' base

theorem Pur.snd {P : Program} {μ : Ren} {st : St} {w : World} {base : Nat} {s : Sem Value} {v : Value} (h : Pur P μ w s v) (hr : HR μ st w.heap base) : Snd P μ st w base s v st :=
  let ⟨v', a, b⟩ := h; ⟨v', w, μ, a, b, hr, Ex.refl _ _ _ _⟩

section
variable {P : Program} {E : Env} {μ : Ren} {st : St} {w : World} {base : Nat}

theorem loadVar_sound (hE : EnvOK P E) (hr : HR μ st w.heap base) {t : TypeId} {a : Addr} {x' v : Value} (h : st.loadVar E t a = some v) (ha : VR μ (.pointer (some a)) x') : Pur P μ w (Instr.loadAt t x') v := by
  cases ha with
  | ptr b o L hb =>
    unfold St.loadVar at h
    cases hi : E.ti.get t with
    | none => rw [hi] at h; cases h
    | some i =>
      rw [hi] at h
      simp only [] at h
      unfold Pur Instr.loadAt loadVar
      simp only [Sem.run_bind, Instr.sureAddr, Sem.run_pure, Result.andThen_ok, hE.run_agg hi]
      cases ha : isAggTy i.und with
      | true =>
        rw [ha] at h
        simp only [cond_true] at h
        cases hl : st.loads ⟨b, o, none⟩ i.size 0 with
        | none => rw [hl] at h; cases h
        | some l =>
          rw [hl] at h
          simp only [Option.some.injEq] at h
          subst h
          obtain ⟨l', hlen, hc, hv⟩ := St.loads_sound hr hb _ _ _ hl
          have hrun := run_loadCells_list (P := P) (w := w) ⟨L.blk, L.off + o, none⟩ l' (fun j u hu => by rw [add_none]; have := hc j u hu; simpa using this)
          refine ⟨.agg l'.toArray, ?_, .agg _ _ (by simpa using hv)⟩
          rw [hlen] at hrun
          simp [hE.run_size hi, hrun]
      | false =>
        rw [ha] at h
        simp only [cond_false] at h
        obtain ⟨v', hc, hv⟩ := St.load_sound hr h hb
        exact ⟨v', by simp [hc], hv⟩

theorem storeVar_sound (hE : EnvOK P E) (hr : HR μ st w.heap base) {t : TypeId} {a : Addr} {x' v v' : Value} {st' : St} (h : st.storeVar E t a v = some st') (ha : VR μ (.pointer (some a)) x') (hv : VR μ v v') :
    SndU P μ st w base (Instr.storeAt t x' v') st' := by
  cases ha with
  | ptr b o L hb =>
    unfold St.storeVar at h
    cases hi : E.ti.get t with
    | none => rw [hi] at h; cases h
    | some i =>
      rw [hi] at h
      simp only [] at h
      cases hn : Nat.beq (cellsOf v).length i.size with
      | false => rw [hn] at h; cases h
      | true =>
        rw [hn] at h
        simp only [cond_true] at h
        have hlen : (cellsOf v).length = i.size := Nat.eq_of_beq_eq_true hn
        obtain ⟨w', a1, a2, a3⟩ := HR.stores (P := P) hr h hb hv.cells
        refine ⟨w', μ, ?_, a2, a3⟩
        have hsz : v'.cells.size = i.size := by
          have := hv.cells.length
          rw [hlen] at this
          simpa [cellsOf] using this
        simp [Instr.storeAt, Instr.sureAddr, storeVar, hE.run_size hi, hsz]
        exact a1

/-- A row that is laid. -/
theorem newRow_sound (hr : HR μ st w.heap base) {st' : St} {vs : List Value} {sz el b : Nat} {op : Bool} {c' : Array Value} {el' : TypeId} (hp : st.row vs sz el op = some (b, st')) (hlen : vs.length ≤ c'.size)
    (hop : op = false → c'.size = vs.length ∧ el' = el) (hv : ∀ (i : Nat) (v : Value), vs[i]? = some v → ∃ v' : Value, c'[i]? = some v' ∧ VR μ v v') {w1 w2 : World} (h1 : w1.heap = w.heap) (ho1 : w1.os = w.os) (hp1 : w1.output = w.output)
    {fz : Nat × Nat} (h2 : w2.heap = w1.heap.push (.cells c' el' fz)) (ho2 : w2.os = w1.os) (hp2 : w2.output = w1.output) (hfz : fz.1 = fz.2 ∨ c'.size ≤ fz.1) (hel : el' = el := by rfl) :
    ∃ μ', HR μ' st' w2.heap base ∧ Ex μ st w μ' st' w2 base ∧ μ' b = some ⟨w.heap.size, 0, c'.size, sz⟩ := by
  obtain ⟨a, e⟩ := HR.row hr hp hlen hel hop hv hfz
  refine ⟨_, ?_, Ex.row hr hp (L := ⟨w.heap.size, 0, c'.size, sz⟩) (o' := .cells c' el' fz) (by rw [h2, h1]) (by rw [ho2, ho1]) (by rw [hp2, hp1]), ?_⟩
  · rw [h2, h1]; exact a
  · rw [e]; exact upd_self _ _ _

theorem noFreeze (n : Nat) : ((0, 0) : Nat × Nat).1 = ((0, 0) : Nat × Nat).2 ∨ n ≤ ((0, 0) : Nat × Nat).1 := .inl rfl

theorem VR.ptr0 {b s r z : Nat} (h : μ b = some ⟨s, 0, r, z⟩) : VR μ (Go.Det.ptr b) (.pointer (some ⟨s, 0, none⟩)) := VR.ptr b 0 ⟨s, 0, r, z⟩ h

theorem VR.row0 {b s r z len cap : Nat} (h : μ b = some ⟨s, 0, r, z⟩) (hl : len ≤ cap) (hc : cap < big) : VR μ (.slice (some ⟨b, 0, none⟩) len cap) (.slice (some ⟨s, 0, none⟩) len cap) :=
  VR.slice b 0 ⟨s, 0, r, z⟩ len cap 0 cap h ⟨hl, fun _ => ⟨rfl, .inl rfl⟩, fun g => by omega⟩

theorem VR.open0 {b s r z len cap' : Nat} (h : μ b = some ⟨s, 0, r, z⟩) (hl : len ≤ cap') (hc : cap' * z = r) : VR μ (.slice (some ⟨b, 0, none⟩) len opn) (.slice (some ⟨s, 0, none⟩) len cap') :=
  VR.slice b 0 ⟨s, 0, r, z⟩ len opn 0 cap' h ⟨hl, fun g => by unfold opn big at g; omega, fun _ => .inl ⟨rfl, by show 0 + cap' * z = 0 + r; omega⟩⟩

/-! ### What is laid anew -/
/-- An abstract object is laid. -/
def Lays (st : St) (o : AObj) (st' : St) : Prop :=
  st'.next = st.next + 1 ∧ (∀ m, st'.heap.get m = if m = st.next then some o else st.heap.get m) ∧
    ((clsOf o = none ∧ st'.cls = st.cls) ∨ (clsOf o = some st.next ∧ ∀ k, st'.cls.get k = if k = st.next then some [st.next] else st.cls.get k))

/-- The model lays an object that is as said, wherever it is put. -/
def Mk (P : Program) (μ : Ren) (w : World) (s : Sem Value) (v : Value) (b : Nat) (o : AObj) : Prop :=
  ∃ v' o' w' L, s.run P w = .ok v' w' ∧ w'.heap = w.heap.push o' ∧ w'.os = w.os ∧ w'.output = w.output ∧ L.blk = w.heap.size ∧
    ∀ μ', Sub μ μ' → μ' b = some L → VR μ' v v' ∧ ObjR μ' o L o'

theorem Mk.snd {s : Sem Value} {v : Value} {o : AObj} {st' : St} (h : Mk P μ w s v st.next o) (hr : HR μ st w.heap base) (hl : Lays st o st') : Snd P μ st w base s v st' := by
  obtain ⟨v', o', w', L, h1, h2, h3, h4, h5, h6⟩ := h
  obtain ⟨l1, l2, l3⟩ := hl
  obtain ⟨hv, ho⟩ := h6 _ (sub_upd L (hr.fresh _ (Nat.le_refl _))) (upd_self _ _ _)
  refine ⟨v', w', _, h1, hv, ?_, Ex.more hr l1 l2 h2 h3 h4⟩
  rw [h2]
  exact hr.more l1 l2 l3 h5 ho

theorem rowLays {vs : List Value} {sz el b : Nat} {op : Bool} {st' : St} (h : st.row vs sz el op = some (b, st')) :
    ∃ c, treeOf vs 0 .nil = some c ∧ b = st.next ∧ Lays st (.cells vs.length c sz el op false st.next) st' := by
  obtain ⟨c, hc, hb, hn, hk, hh⟩ := St.row_spec h
  exact ⟨c, hc, hb, hn, hh, .inr ⟨rfl, hk⟩⟩

theorem rowObj {vs : List Value} {c : Tr Value} {c' : Array Value} {sz el B k : Nat} {op : Bool} {fz : Nat × Nat} (hc : treeOf vs 0 .nil = some c) (hlen : vs.length ≤ c'.size) (hop : op = false → c'.size = vs.length)
    (hv : ∀ (i : Nat) (v : Value), vs[i]? = some v → ∃ v', c'[i]? = some v' ∧ VR μ v v') (hfz : fz.1 = fz.2 ∨ c'.size ≤ fz.1) {μ' : Ren} (hs : Sub μ μ') :
    ObjR μ' (.cells vs.length c sz el op false k) ⟨B, 0, c'.size, sz⟩ (.cells c' el fz) := by
  refine ⟨by simp, hlen, fun e => ⟨hop e, rfl, rfl⟩, ⟨rfl, rfl⟩, fun i hi v hv' => ?_, fun _ => hfz⟩
  rw [treeOf_get hc hi] at hv'
  obtain ⟨v', a, r⟩ := hv i v hv'
  exact ⟨v', by simpa using a, r.mono hs⟩

theorem box_mk (hE : EnvOK P E) {t : TypeId} {v x : Value} {st' : St} (h : boxA E st t v = some (x, st')) :
    ∃ o, Lays st o st' ∧ isLive o = true ∧ ∀ (μ : Ren) (w : World) (v' : Value), VR μ v v' → Mk P μ w (Instr.box t v') x st.next o := by
  unfold boxA at h
  cases hi : E.ti.get t with
  | none => rw [hi] at h; cases h
  | some i =>
    rw [hi] at h
    simp only [] at h
    cases hp : st.row (cellsOf v) i.size t false with
    | none => rw [hp] at h; cases h
    | some q =>
      obtain ⟨b, s⟩ := q
      rw [hp] at h
      simp only [Option.some.injEq, Prod.mk.injEq] at h
      obtain ⟨rfl, rfl⟩ := h
      obtain ⟨c, hc, rfl, hl⟩ := rowLays hp
      refine ⟨_, hl, rfl, fun μ w v' hv => ?_⟩
      have hl := hv.cells.length
      have hl' : v'.cells.size = (cellsOf v).length := by rw [← hl]; simp [cellsOf]
      exact ⟨.pointer (some ⟨w.heap.size, 0, none⟩), .cells v'.cells t, w.alloc (.cells v'.cells t), ⟨w.heap.size, 0, v'.cells.size, i.size⟩, rfl, rfl, rfl, rfl, rfl, fun μ' hs hb => ⟨VR.ptr0 hb,
        rowObj hc (by omega) (fun _ => hl') (fun j u hu => by obtain ⟨u', x, y⟩ := hv.cells.get hu; exact ⟨u', by simpa [cellsOf] using x, y⟩) (noFreeze _) hs⟩⟩

theorem box_sound (hE : EnvOK P E) (hr : HR μ st w.heap base) {t : TypeId} {v v' x : Value} {st' : St} (h : boxA E st t v = some (x, st')) (hv : VR μ v v') : Snd P μ st w base (Instr.box t v') x st' := by
  obtain ⟨o, hl, _, hm⟩ := box_mk (P := P) hE h
  exact (hm μ w v' hv).snd hr hl

theorem alloc_mk (hE : EnvOK P E) {t : TypeId} {x : Value} {st' : St} (h : allocA E st t = some (x, st')) :
    ∃ o, Lays st o st' ∧ isLive o = true ∧ ∀ (μ : Ren) (w : World), Mk P μ w (Instr.alloc t true (.tuple #[])) x st.next o := by
  have hb : ∃ i, E.ti.get t = some i ∧ boxA E st t i.zero = some (x, st') := by
    unfold allocA at h
    cases hi : E.ti.get t with
    | none => rw [hi] at h; cases h
    | some i => rw [hi] at h; exact ⟨i, rfl, by unfold boxA; rw [hi]; exact h⟩
  obtain ⟨i, hi, hb⟩ := hb
  obtain ⟨o, hl, hv, hm⟩ := box_mk (P := P) hE hb
  refine ⟨o, hl, hv, fun μ w => ?_⟩
  obtain ⟨v', o', w', L, a, r⟩ := hm μ w i.zero (plainV_VR μ (hE.zero t i hi).1)
  exact ⟨v', o', w', L, by simp [Instr.alloc, hE.run_zero hi]; simpa [Instr.box] using a, r⟩

theorem alloc_sound (hE : EnvOK P E) (hr : HR μ st w.heap base) {t : TypeId} {x : Value} {st' : St} (h : allocA E st t = some (x, st')) : Snd P μ st w base (Instr.alloc t true (.tuple #[])) x st' := by
  obtain ⟨o, hl, _, hm⟩ := alloc_mk (P := P) hE h
  exact (hm μ w).snd hr hl

theorem makeMap_mk {v : Value} {st' : St} (h : makeMapA st = some (v, st')) : ∃ o, Lays st o st' ∧ isLive o = true ∧
    ∀ (μ : Ren) (w : World) (s : Sem Value), s.run P w = .ok (.map (some w.heap.size)) (w.alloc (.map #[] 0)) → Mk P μ w s v st.next o := by
  unfold makeMapA at h
  cases hp : st.push (.map [] 0) with
  | none => rw [hp] at h; cases h
  | some q =>
    obtain ⟨b, s⟩ := q
    rw [hp] at h
    simp only [Option.some.injEq, Prod.mk.injEq] at h
    obtain ⟨rfl, rfl⟩ := h
    obtain ⟨rfl, hn, hcl, hh⟩ := St.push_spec hp
    refine ⟨_, ⟨hn, hh, .inl ⟨rfl, hcl⟩⟩, rfl, fun μ w s hs => ⟨_, .map #[] 0, _, ⟨w.heap.size, 0, 0, 0⟩, hs, rfl, rfl, rfl, rfl, fun μ' _ hb => ⟨.map _ _ hb, _, rfl, .nil⟩⟩⟩

/-! ### Zeros -/
theorem zeros_length (z : List Value) : ∀ n, (zeros z n).length = n * z.length
  | 0 => by simp [zeros]
  | n + 1 => by simp [zeros, zeros_length z n, Nat.add_mul]; omega

theorem zeros_get (z : List Value) : ∀ (n i : Nat), i < n * z.length → (zeros z n)[i]? = z[i % z.length]?
  | 0, i, h => by simp at h
  | n + 1, i, h => by
    have hz : 0 < z.length := by
      rcases Nat.eq_zero_or_pos z.length with e | e
      · rw [e] at h; simp at h
      · exact e
    simp only [zeros]
    rcases Nat.lt_or_ge i z.length with g | g
    · rw [List.getElem?_append_left g, Nat.mod_eq_of_lt g]
    · rw [List.getElem?_append_right g, zeros_get z n (i - z.length) (by rw [Nat.add_mul] at h; omega)]
      congr 1
      exact (Nat.mod_eq_sub_mod g).symm

theorem zeroArr_get (z : Array Value) (n i : Nat) (h : i < n * z.size) : ((Array.range (n * z.size)).map fun i => z[i % z.size]!)[i]? = z[i % z.size]? := by
  have hz : 0 < z.size := by
    rcases Nat.eq_zero_or_pos z.size with e | e
    · rw [e] at h; simp at h
    · exact e
  have hm := Nat.mod_lt i hz
  simp [h, hm]

theorem zeros_rel (μ : Ren) (hE : EnvOK P E) {t : TypeId} {i : TI} (hi : E.ti.get t = some i) (n j : Nat) (v : Value) (h : (zeros (cellsOf i.zero) n)[j]? = some v) :
    ∃ v', ((Array.range (n * i.zero.cells.size)).map fun k => i.zero.cells[k % i.zero.cells.size]!)[j]? = some v' ∧ VR μ v v' := by
  have hl : j < n * (cellsOf i.zero).length := by
    have := (List.getElem?_eq_some_iff.1 h).1
    rw [zeros_length] at this
    exact this
  have e : (cellsOf i.zero).length = i.zero.cells.size := by simp [cellsOf]
  rw [zeros_get _ _ _ hl] at h
  obtain ⟨v', a, b⟩ := (plainV_cells μ (hE.zero t i hi).1).get h
  refine ⟨v', ?_, b⟩
  rw [zeroArr_get _ _ _ (by rw [← e]; exact hl)]
  rw [e] at a
  simpa [cellsOf] using a

theorem size_zero (hE : EnvOK P E) {t : TypeId} {i : TI} (hi : E.ti.get t = some i) : i.zero.cells.size = i.size := by
  have := (hE.zero t i hi).2
  simpa [cellsOf] using this

theorem makeSlice_mk (hE : EnvOK P E) {t : TypeId} {l c x : Value} {st' : St} (h : makeSliceA E st t l c = some (x, st')) :
    ∃ o, Lays st o st' ∧ isLive o = true ∧ ∀ (μ : Ren) (w : World) (l' c' : Value), VR μ l l' → VR μ c c' → Mk P μ w (Instr.makeSlice t l' c') x st.next o := by
  unfold makeSliceA at h
  cases hi : E.ti.get t with
  | none => rw [hi] at h; cases h
  | some i =>
    cases hl1 : intOf l with
    | none => rw [hi, hl1] at h; cases h
    | some ln =>
      cases hc1 : intOf c with
      | none => rw [hi, hl1, hc1] at h; cases h
      | some cn =>
        rw [hi, hl1, hc1] at h
        simp only [] at h
        cases hu : i.und with
        | slice e =>
          rw [hu] at h
          simp only [] at h
          cases he : E.ti.get e with
          | none => rw [he] at h; cases h
          | some ei =>
            rw [he] at h
            simp only [] at h
            split at h
            · rename_i hcd
              obtain ⟨h0, h1, h2, h3⟩ := hcd
              cases hp : st.row (zeros (cellsOf ei.zero) cn.toNat) ei.size e false with
              | none => rw [hp] at h; cases h
              | some q =>
                obtain ⟨b, s⟩ := q
                rw [hp] at h
                simp only [Option.some.injEq, Prod.mk.injEq] at h
                obtain ⟨rfl, rfl⟩ := h
                obtain ⟨cc, hcc, rfl, hlays⟩ := rowLays hp
                refine ⟨_, hlays, rfl, fun μ w l' c' hl hc => ?_⟩
                obtain ⟨k1, rfl⟩ := intOf_VR hl1 hl
                obtain ⟨k2, rfl⟩ := intOf_VR hc1 hc
                have hund := hE.run_und hi w
                rw [hu] at hund
                obtain ⟨info, hinf, e1, e2, e3⟩ := hE.run_info he w
                have hw1 : IntKind.i64.wrap ln = ln := by rw [IntKind.wrap_i64]; omega
                have hw2 : IntKind.i64.wrap cn = cn := by rw [IntKind.wrap_i64]; omega
                have hbytes : ¬ ((info.bytes : Int) * cn > 2 ^ 48) := by
                  rw [e2]
                  have : (ei.bytes : Int) * cn ≤ 100000 * 100000 := Int.mul_le_mul (by omega) h2 (by omega) (by omega)
                  omega
                have hcs := size_zero hE he
                let arr : Array Value := (Array.range (cn.toNat * ei.zero.cells.size)).map fun k => ei.zero.cells[k % ei.zero.cells.size]!
                have hsz : arr.size = (zeros (cellsOf ei.zero) cn.toNat).length := by
                  rw [zeros_length]; simp [arr, cellsOf]
                refine ⟨.slice (some ⟨w.heap.size, 0, none⟩) ln.toNat cn.toNat, .cells arr e, w.alloc (.cells arr e), ⟨w.heap.size, 0, arr.size, ei.size⟩, ?_, rfl, rfl, rfl, rfl, fun μ' hs hb => ⟨VR.row0 hb (by omega) (by unfold big; omega),
                  rowObj hcc (by omega) (fun _ => hsz) (fun j u hu => zeros_rel μ hE he cn.toNat j u hu) (noFreeze _) hs⟩⟩
                have hneg : ¬ (cn < 0) := by omega
                have hroom : (askRoom (cn.toNat * info.bytes)).run P w = .ok () w := by
                  have hb2 : cn.toNat * info.bytes ≤ 100000 * 100000 := Nat.mul_le_mul (by omega) (by rw [e2]; exact h3)
                  unfold askRoom roomBytes
                  rw [if_neg (by omega)]
                  rfl
                have hneg2 : ¬ (ln < 0) := by omega
                have hgt : ¬ (ln > cn) := by omega
                unfold Instr.makeSlice
                simp only [Sem.run_bind, hund, Result.andThen_ok, asInt, asIntOf, Sem.run_pure, hinf, hw1, hw2]
                have hbd : (decide (cn < 0) || decide ((info.bytes : Int) * cn > 2 ^ 48)) = false := by simp [hneg]; omega
                simp only [hbd, hneg2, hgt, decide_false, Bool.or_false, Bool.false_eq_true, if_false, Bool.or_self, Sem.run_pure, Result.andThen_ok, hroom, hE.run_size he]
                simp only [Sem.run_bind]
                rw [hroom]
                simp only [Result.andThen_ok, hE.run_size he]
                by_cases hn0 : cn.toNat * ei.size = 0
                · simp only [hn0, if_true, Sem.run_pure, Result.andThen_ok]
                  have harr : arr = (Array.range 0).map (fun k => (#[] : Array Value)[k % 0]!) := by
                    have : arr.size = 0 := by simp [arr, hcs, hn0]
                    have := Array.eq_empty_of_size_eq_zero this
                    rw [this]; simp
                  simp only [newRow, Sem.run_bind, run_newObj, Result.andThen_ok, Sem.run_pure]
                  rw [harr]
                  rfl
                · simp only [hn0, if_false, hE.run_zero he, Result.andThen_ok, Sem.run_bind, Sem.run_pure]
                  simp only [newRow, Sem.run_bind, run_newObj, Result.andThen_ok, Sem.run_pure]
                  have : arr = (Array.range (cn.toNat * ei.size)).map (fun k => ei.zero.cells[k % ei.zero.cells.size]!) := by simp [arr, hcs]
                  rw [this]
                  rfl
            · cases h
        | _ => rw [hu] at h; cases h

theorem makeSlice_sound (hE : EnvOK P E) (hr : HR μ st w.heap base) {t : TypeId} {l l' c c' x : Value} {st' : St} (h : makeSliceA E st t l c = some (x, st')) (hl : VR μ l l') (hc : VR μ c c') :
    Snd P μ st w base (Instr.makeSlice t l' c') x st' := by
  obtain ⟨o, hla, _, hm⟩ := makeSlice_mk (P := P) hE h
  exact (hm μ w l' c' hl hc).snd hr hla

end
end Go.Det
