/- Conversions, and what the runtime's own functions do. -/
import Derived.Test.YtofiafmbiedjnaaGreatDoorDetOps11
import Derived.Laws.BytesString
set_option autoImplicit false
namespace Go.Det

section
variable {P : Program} {E : Env} {μ : Ren} {st : St} {w : World} {base : Nat}

/-! ### Bytes -/
theorem bytesL_sound : ∀ {l l' : List Value} {bs : List UInt8}, bytesL l = some bs → VRL μ l l' → ∃ ns : List Int, l' = ns.map (Value.int .u8) ∧ bs = ns.map fun n => UInt8.ofNat n.toNat
  | [], _, bs, h, hv => by
    cases hv
    simp only [bytesL, Option.some.injEq] at h
    subst h
    exact ⟨[], rfl, rfl⟩
  | v :: l, _, bs, h, hv => by
    cases hv with
    | cons hv ht =>
      cases hv with
      | int k n =>
        cases k with
        | u8 =>
          simp only [bytesL] at h
          cases hb : bytesL l with
          | none => rw [hb] at h; cases h
          | some b =>
            rw [hb] at h
            simp only [Option.some.injEq] at h
            subst h
            obtain ⟨ns, rfl, rfl⟩ := bytesL_sound hb ht
            exact ⟨n :: ns, rfl, rfl⟩
        | _ => cases h
      | _ => cases h

theorem foldl_push (l : List UInt8) (ns : List Int) : ns.foldl (fun (r : ByteArray) n => r.push (UInt8.ofNat n.toNat)) ⟨⟨l⟩⟩ = ⟨⟨l ++ ns.map fun n => UInt8.ofNat n.toNat⟩⟩ := by
  induction ns generalizing l with
  | nil => simp
  | cons n ns ih =>
    rw [List.foldl_cons]
    have e : (⟨⟨l⟩⟩ : ByteArray).push (UInt8.ofNat n.toNat) = ⟨⟨l ++ [UInt8.ofNat n.toNat]⟩⟩ := by
      show (⟨(⟨l⟩ : Array UInt8).push _⟩ : ByteArray) = _
      rw [List.push_toArray]
    rw [e, ih]
    simp

theorem ext_loadBytes {B o : Nat} : ∀ (ns : List Int) (k : Nat) (acc : ByteArray), (∀ j v, (ns.map (Value.int .u8))[j]? = some v → w.cell? ⟨B, o + k + j, none⟩ = some v) →
    (Extern.Bytes.loadBytes ⟨B, o + k, none⟩ ns.length acc).run P w = .ok (ns.foldl (fun (r : ByteArray) n => r.push (UInt8.ofNat n.toNat)) acc) w := by
  intro ns
  induction ns with
  | nil => intro k acc _; rfl
  | cons n ns ih =>
    intro k acc h
    have h0 : w.cell? ⟨B, o + k, none⟩ = some (.int .u8 n) := by have := h 0 (.int .u8 n) (by simp); simpa using this
    have := ih (k + 1) (acc.push (UInt8.ofNat n.toNat)) (fun j v hj => by
      have := h (j + 1) v (by simpa using hj)
      have e : o + (k + 1) + j = o + k + (j + 1) := by omega
      rw [e]; exact this)
    simp only [List.length_cons, Extern.Bytes.loadBytes, Sem.run_bind, run_load, h0, Result.andThen_ok, add_none, List.foldl_cons]
    rw [Nat.add_assoc] 
    exact this

theorem lay_loadBytes {B o : Nat} : ∀ (ns : List Int) (k : Nat) (acc : ByteArray), (∀ j v, (ns.map (Value.int .u8))[j]? = some v → w.cell? ⟨B, o + k + j, none⟩ = some v) →
    (Go.loadBytes ⟨B, o + k, none⟩ acc ns.length).run P w = .ok (ns.foldl (fun (r : ByteArray) n => r.push (UInt8.ofNat n.toNat)) acc) w := by
  intro ns
  induction ns with
  | nil => intro k acc _; rfl
  | cons n ns ih =>
    intro k acc h
    have h0 : w.cell? ⟨B, o + k, none⟩ = some (.int .u8 n) := by have := h 0 (.int .u8 n) (by simp); simpa using this
    have := ih (k + 1) (acc.push (UInt8.ofNat n.toNat)) (fun j v hj => by
      have := h (j + 1) v (by simpa using hj)
      have e : o + (k + 1) + j = o + k + (j + 1) := by omega
      rw [e]; exact this)
    simp only [List.length_cons, Go.loadBytes, Sem.run_bind, run_load, h0, Result.andThen_ok, add_none, List.foldl_cons]
    rw [Nat.add_assoc]
    exact this

/-- The bytes at a place. -/
theorem bytesAt (hr : HR μ st w.heap base) {b o len : Nat} {L : Loc} (hb : μ b = some L) {l : List Value} {bs : List UInt8} (hl : st.loads ⟨b, o, none⟩ len 0 = some l) (hbs : bytesL l = some bs) :
    ∃ ns : List Int, ns.length = len ∧ (∀ j v, (ns.map (Value.int .u8))[j]? = some v → w.cell? ⟨L.blk, L.off + o + j, none⟩ = some v) ∧ bs = ns.map fun n => UInt8.ofNat n.toNat := by
  obtain ⟨l', h1, h2, h3⟩ := St.loads_sound hr hb _ _ _ hl
  obtain ⟨ns, rfl, rfl⟩ := bytesL_sound hbs h3
  refine ⟨ns, by simpa using h1, fun j v hj => by have := h2 j v hj; simpa using this, rfl⟩

theorem empty_eq : ByteArray.empty = ⟨⟨[]⟩⟩ := rfl

theorem bytesArg_sound (hr : HR μ st w.heap base) {x x' : Value} {bs : List UInt8} (h : bytesArg st x = some bs) (hx : VR μ x x') : (Extern.Bytes.bytesOf x').run P w = .ok ⟨⟨bs⟩⟩ w := by
  cases hx with
  | string s => simp only [bytesArg, Option.some.injEq] at h; subst h; rfl
  | snil => simp only [bytesArg, Option.some.injEq] at h; subst h; rfl
  | slice b o L len cap o' cap' hb hs =>
    simp only [bytesArg] at h
    cases hl : st.loads ⟨b, o, none⟩ len 0 with
    | none => rw [hl] at h; cases h
    | some l =>
      rw [hl] at h
      simp only [] at h
      obtain ⟨ns, h1, h2, h3⟩ := bytesAt hr hb hl h
      subst h3
      rcases Nat.eq_zero_or_pos len with g | g
      · subst g
        have : ns = [] := List.length_eq_zero_iff.1 h1
        subst this
        rfl
      · have hoff := hs.off_eq (by have := hs.1; omega)
        subst hoff
        have hrun := ext_loadBytes (P := P) (w := w) (B := L.blk) (o := L.off + o) ns 0 .empty (by simpa using h2)
        rw [h1, empty_eq, foldl_push] at hrun
        simp only [List.nil_append, Nat.add_zero] at hrun
        exact hrun
  | _ => cases h

/-! ### Conversions -/
theorem conv_int {s d : TypeId} {U : TypeDesc} {k k' : IntKind} {n : Int} (hs : P.underlying s = some U) (hd : P.underlying d = some (.int k)) : (convert s d (.int k' n)).run P w = .ok (.int k (k.wrap n)) w := by
  unfold convert
  simp only [Sem.run_bind, run_underlying hs, run_underlying hd, Result.andThen_ok]
  cases U <;> rfl

theorem conv_str {s d : TypeId} {U : TypeDesc} {x : ByteArray} (hs : P.underlying s = some U) (hd : P.underlying d = some .string) : (convert s d (.string x)).run P w = .ok (.string x) w := by
  unfold convert
  simp only [Sem.run_bind, run_underlying hs, run_underlying hd, Result.andThen_ok]
  cases U <;> rfl

theorem viewAt_cells {B : Nat} {c : Array Value} {e : TypeId} {fz : Nat × Nat} (h : w.heap[B]? = some (.cells c e fz)) : (viewAt B).run P w = .ok none w := by
  simp [viewAt, shape, Sem.run, World.shape?, h]

theorem seenAt_cells {a : Addr} {c : Array Value} {e : TypeId} {fz : Nat × Nat} (h : w.heap[a.block]? = some (.cells c e fz)) : (Conv.seenAt a).run P w = .ok a w := by
  unfold Conv.seenAt
  simp only [Sem.run_bind, viewAt_cells h, Result.andThen_ok]
  rfl

theorem shape_cells {B : Nat} {c : Array Value} {e : TypeId} {fz : Nat × Nat} (h : w.heap[B]? = some (.cells c e fz)) : (shape B).run P w = .ok (some (e, c.size)) w := by
  simp [shape, Sem.run, World.shape?, h]

theorem cellsIn_cells {B : Nat} {c : Array Value} {e : TypeId} {fz : Nat × Nat} (h : w.heap[B]? = some (.cells c e fz)) : (cellsIn B).run P w = .ok (some c.size) w := by
  unfold cellsIn
  simp only [Sem.run_bind, shape_cells h, Result.andThen_ok]
  rfl

theorem conv_toUnsafe (hE : EnvOK P E) {s d t : TypeId} {ti : TI} {a : Addr} {c : Array Value} {e : TypeId} {fz : Nat × Nat} (hs : P.underlying s = some (.pointer t)) (hd : P.underlying d = some .unsafePointer)
    (ht : E.ti.get t = some ti) (hz : ti.size ≠ 0) (h : w.heap[a.block]? = some (.cells c e fz)) (hlt : a.off < c.size) : (convert s d (.pointer (some a))).run P w = .ok (.pointer (some a)) w := by
  have h1 : (convert s d (.pointer (some a))).run P w = (Conv.unsafePointer s d (.pointer (some a))).run P w := by
    unfold convert
    simp only [Sem.run_bind, run_underlying hs, run_underlying hd, Result.andThen_ok]
  rw [h1]
  unfold Conv.unsafePointer
  simp only [Sem.run_bind, run_underlying hs, run_underlying hd, Result.andThen_ok, seenAt_cells h, cellsIn_cells h, hE.run_size ht]
  have hn : (decide (a.off ≥ c.size) && a.spot.isNone) = false := by
    have : ¬ (a.off ≥ c.size) := by omega
    simp [this]
  simp [hz, hn]

theorem variablesAt_run {a : Addr} {c : Array Value} {e u : TypeId} {n : Nat} {fz : Nat × Nat} (h : w.heap[a.block]? = some (.cells c e fz)) : (variablesAt a u n).run P w = .ok (liesAt P P.depth e (c.size / P.cellsOf e) a.off u n) w := by
  unfold variablesAt
  simp only [Sem.run_bind, run_program, Result.andThen_ok, shape_cells h]
  rfl

theorem conv_fromUnsafe (hE : EnvOK P E) {s d t : TypeId} {ti : TI} {a : Addr} {c : Array Value} {e : TypeId} {fz : Nat × Nat} (hs : P.underlying s = some .unsafePointer) (hd : P.underlying d = some (.pointer t))
    (ht : E.ti.get t = some ti) (hz : ti.size ≠ 0) (h : w.heap[a.block]? = some (.cells c e fz)) (hl : liesAt P P.depth e (c.size / P.cellsOf e) a.off t 1 = true) : (convert s d (.pointer (some a))).run P w = .ok (.pointer (some a)) w := by
  have h1 : (convert s d (.pointer (some a))).run P w = (Conv.unsafePointer s d (.pointer (some a))).run P w := by
    unfold convert
    simp only [Sem.run_bind, run_underlying hs, run_underlying hd, Result.andThen_ok]
  rw [h1]
  unfold Conv.unsafePointer
  simp only [Sem.run_bind, run_underlying hs, run_underlying hd, Result.andThen_ok, seenAt_cells h, hE.run_size ht, variablesAt_run h, hl]
  simp [hz]

theorem cellsOf_size (hE : EnvOK P E) {t : TypeId} {i : TI} (h : E.ti.get t = some i) : P.cellsOf t = i.size := by
  obtain ⟨x, a, b, _⟩ := hE.info t i h
  simp [Program.cellsOf, a, b]

theorem push_modify (h : Array Obj) (o : Obj) (f : Obj → Obj) : (h.push o).modify h.size f = h.push (f o) := by
  apply Array.ext_getElem?
  intro i
  rw [Array.getElem?_modify, Array.getElem?_push, Array.getElem?_push]
  by_cases e : i = h.size
  · subst e; simp
  · have e' : ¬ h.size = i := fun g => e g.symm
    simp [e, e']

/-- The bytes' array is marked. -/
theorem mark_sound {st : St} (hr : HR μ st w.heap base) {b : Nat} {L : Loc} (hb : μ b = some L) {c : Array Value} {e : TypeId} {fz : Nat × Nat} (hB : w.heap[L.blk]? = some (.cells c e fz)) (o : Nat) :
    (markStringish ⟨L.blk, o, none⟩).run P w = .ok () (w.freeze ⟨L.blk, c.size, none⟩ 1) ∧ HR μ st (w.freeze ⟨L.blk, c.size, none⟩ 1).heap base ∧ Ex μ st w μ st (w.freeze ⟨L.blk, c.size, none⟩ 1) base := by
  obtain ⟨lo, hi⟩ := fz
  have hlt := (hr.inn b L hb).2
  have hge := (hr.inn b L hb).1
  have hv : w.heap[L.blk] = .cells c e (lo, hi) := by rw [Array.getElem?_eq_getElem hlt] at hB; exact Option.some.inj hB
  have hf : w.freeze ⟨L.blk, c.size, none⟩ 1 = w.putObj L.blk (.cells c e (if lo == hi then (c.size, c.size + 1) else (min lo c.size, max hi (c.size + 1)))) := by
    unfold World.freeze World.putObj
    rw [if_neg (by omega)]
    congr 1
    apply Array.ext_getElem?
    intro i
    by_cases e : L.blk = i
    · subst e
      rw [Array.getElem?_modify]
      simp [hlt, hv]
    · rw [Array.getElem?_setIfInBounds_ne e, Array.getElem?_modify]
      simp [e]
  refine ⟨?_, ?_, ?_⟩
  · unfold markStringish
    simp only [Sem.run_bind, shape_cells hB, Result.andThen_ok]
    rfl
  · rw [hf]
    refine ⟨hr.fresh, fun d M hM => by simpa using hr.inn d M hM, hr.heapIn, ?_, hr.sep, hr.cls, hr.clsIn, by simpa using hr.le⟩
    intro d M q hM hq
    obtain ⟨q', a, r⟩ := hr.obj d M q hM hq
    by_cases el : M.blk = L.blk
    · rw [el, hB] at a
      simp only [Option.some.injEq] at a
      subst a
      refine ⟨_, by rw [el]; exact World.putObj_heap_same hlt, ?_⟩
      cases q with
      | cells n c1 sz el1 op fz1 k =>
        obtain ⟨r1, r2, r3, r4, r5, r6⟩ := r
        refine ⟨r1, r2, r3, r4, r5, fun g => ?_⟩
        have := r6 g
        simp only [] at this
        by_cases q : lo = hi
        · simp [q]
        · have q' : (lo == hi) = false := by simpa using q
          right
          simp only [q', Bool.false_eq_true, if_false]
          rcases this with h | h
          · exact absurd h q
          · omega
      | dead => trivial
      | map es clock => obtain ⟨_, h, _⟩ := r; cases h
      | strIter s p => obtain ⟨_, h⟩ := r; cases h
      | mapIter m a s l c => obtain ⟨_, _, _, h, _⟩ := r; cases h
      | loop l => obtain ⟨_, _, _, _, h, _⟩ := r; cases h
      | defd op => cases op <;> cases r
    · exact ⟨q', by rw [World.putObj_heap_other el]; exact a, r⟩
  · rw [hf]
    exact ⟨Sub.refl _, fun g hg hm => ⟨hm, rfl⟩, Nat.le_refl _, fun B hB' => World.putObj_heap_other (by omega), by simp, rfl, rfl⟩

theorem conv_slices {s d e e0 : TypeId} {a : Addr} {l c : Nat} {w' : World} (hs : P.underlying s = some (.slice e0)) (hd : P.underlying d = some (.slice e)) (he : P.underlying e = some (.int .u8)) (hsd : s = d)
    (hm : (markStringish a).run P w = .ok () w') : (convert s d (.slice (some a) l c)).run P w = .ok (.slice (some a) l c) w' := by
  subst hsd
  have hee : e0 = e := by
    rw [hs] at hd
    simpa using hd
  subst hee
  unfold convert
  simp only [Sem.run_bind, run_underlying hs, run_underlying hd, run_underlying he, Result.andThen_ok, beq_self_eq_true]
  rw [hm]
  rfl

/-- string to []byte -/
theorem conv_bytes (hE : EnvOK P E) {s d e : TypeId} {ei : TI} {U : TypeDesc} {x : ByteArray} {v : Value} {st' : St} (hd : P.underlying d = some (.slice e)) (he : E.ti.get e = some ei) (heu : ei.und = .int .u8)
    (hs : P.underlying s = some U) (h : (match st.row (x.data.toList.map fun b => .int .u8 b.toNat) 1 e true with
      | some (b, st') => some (.slice (some ⟨b, 0, none⟩) x.size opn, st')
      | none => none : Option (Value × St)) = some (v, st')) :
    ∃ o, Lays st o st' ∧ isLive o = true ∧ ∀ (μ : Ren) (w : World), Mk P μ w (convert s d (.string x)) v st.next o := by
  cases hp : st.row (x.data.toList.map fun b => .int .u8 b.toNat) 1 e true with
  | none => rw [hp] at h; cases h
  | some q =>
    obtain ⟨b, s1⟩ := q
    rw [hp] at h
    simp only [Option.some.injEq, Prod.mk.injEq] at h
    obtain ⟨rfl, rfl⟩ := h
    obtain ⟨c, hc, rfl, hl⟩ := rowLays hp
    refine ⟨_, hl, rfl, fun μ w => ?_⟩
    have heu' := hE.und e ei he
    rw [heu] at heu'
    have h1 : (convert s d (.string x)).run P w = (Conv.stringToBytes e x).run P w := by
      unfold convert
      simp only [Sem.run_bind, run_underlying hs, run_underlying hd, Result.andThen_ok]
      cases U <;> simp only [Sem.run_bind, run_underlying heu', Result.andThen_ok]
    have hsz : x.data.size = x.size := rfl
    generalize hcap : Question.cut (.appendCap x.size 0 e) (w.tape w.drawn (.appendCap x.size 0 e)) = cap
    have hle : x.size ≤ cap := by rw [← hcap]; simp only [Question.cut]; omega
    let arr : Array Value := (x.data.map fun b => (.int .u8 b.toNat : Value)) ++ Array.replicate (cap - x.size) (.int .u8 0)
    have hasz : arr.size = cap := by simp [arr, hsz]; omega
    have hrun : (convert s d (.string x)).run P w = .ok (.slice (some ⟨w.heap.size, 0, none⟩) x.size cap) ((w.drew.alloc (.cells arr e)).freeze ⟨w.heap.size, arr.size, none⟩ 1) := by
      rw [h1]
      unfold Conv.stringToBytes
      have hfo : (Question.appendCap x.size 0 e).forced = false := rfl
      simp only [Sem.run_bind, run_choose_drew, hfo, Bool.false_eq_true, if_false, Result.andThen_ok, hcap, newRow, run_newObj_alloc, Sem.run_pure, markStringish]
      have hsh : (shape w.drew.heap.size).run P (w.drew.alloc (.cells arr e)) = .ok (some (e, arr.size)) (w.drew.alloc (.cells arr e)) := shape_cells (World.alloc_heap_new _ _)
      have hsh' : (shape w.drew.heap.size).run P (w.drew.alloc (.cells ((x.data.map fun b => (.int .u8 b.toNat : Value)) ++ Array.replicate (cap - x.size) (.int .u8 0)) e)) = .ok (some (e, arr.size)) (w.drew.alloc (.cells arr e)) := hsh
      rw [hsh']
      rfl
    refine ⟨_, .cells arr e (arr.size, arr.size + 1), _, ⟨w.heap.size, 0, arr.size, 1⟩, hrun, ?_, rfl, rfl, rfl, fun μ' hs hb => ⟨VR.open0 hb hle (by rw [hasz]; omega), ?_⟩⟩
    · unfold World.freeze
      rw [if_neg (by omega)]
      have hp : (w.drew.alloc (Obj.cells arr e)).heap = w.heap.push (Obj.cells arr e) := rfl
      simp only [hp]
      rw [push_modify]
      simp
    · refine rowObj (μ := μ) hc (by rw [hasz]; simpa using hle) (fun g => by cases g) (fun i v hi => ?_) (.inr (Nat.le_refl _)) hs
      have hlt := (List.getElem?_eq_some_iff.1 hi).1
      simp only [List.length_map, Array.length_toList] at hlt
      refine ⟨v, ?_, ?_⟩
      · rw [Array.getElem?_append_left (by simpa using hlt), ← Array.getElem?_toList, Array.toList_map]
        exact hi
      · rw [List.getElem?_map] at hi
        cases hq : x.data.toList[i]? with
        | none => rw [hq] at hi; cases hi
        | some q => rw [hq] at hi; simp only [Option.map_some, Option.some.injEq] at hi; subst hi; exact .int _ _

theorem conv_string (hE : EnvOK P E) (hr : HR μ st w.heap base) {s d e : TypeId} {ei : TI} {a : Option Addr} {len cap : Nat} {x' v : Value} (hs : P.underlying s = some (.slice e)) (hd : P.underlying d = some .string) (he : E.ti.get e = some ei)
    (heu : ei.und = .int .u8) (hx : VR μ (.slice a len cap) x') (h : st.strOf a len = some v) : Pur P μ w (convert s d x') v := by
  have heu' := hE.und e ei he
  rw [heu] at heu'
  unfold St.strOf at h
  cases hx with
  | snil =>
    simp only [Option.some.injEq] at h
    subst h
    refine ⟨.string .empty, ?_, .string _⟩
    rw [run_convert_bytes_string w s d e _ _ _ hs heu' hd]
    rfl
  | slice b o L _ _ o' cap' hb hsl =>
    simp only [] at h
    cases hl : st.loads ⟨b, o, none⟩ len 0 with
    | none => rw [hl] at h; cases h
    | some l =>
      rw [hl] at h
      simp only [] at h
      cases hbs : bytesL l with
      | none => rw [hbs] at h; cases h
      | some bs =>
        rw [hbs] at h
        simp only [Option.some.injEq] at h
        subst h
        obtain ⟨ns, h1, h2, h3⟩ := bytesAt hr hb hl hbs
        subst h3
        refine ⟨_, ?_, .string _⟩
        rw [run_convert_bytes_string w s d e _ _ _ hs heu' hd]
        have hcells : (loadCells ⟨L.blk, o', none⟩ len).run P w = .ok (ns.map (Value.int .u8)).toArray w := by
          rcases Nat.eq_zero_or_pos len with g | g
          · subst g
            have : ns = [] := List.length_eq_zero_iff.1 h1
            subst this
            rfl
          · have hoff := hsl.off_eq (by have := hsl.1; omega)
            subst hoff
            have := run_loadCells_list (P := P) (w := w) ⟨L.blk, L.off + o, none⟩ (ns.map (Value.int .u8)) (fun j u hu => by rw [add_none]; exact h2 j u hu)
            rw [List.length_map, h1] at this
            exact this
        rw [run_bytesToString w _ len cap' ns hcells, empty_eq, foldl_push]
        rfl

end
end Go.Det
