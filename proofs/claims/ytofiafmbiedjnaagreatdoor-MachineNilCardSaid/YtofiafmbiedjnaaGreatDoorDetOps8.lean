/- Appending: a block that grows where it lies, or in new memory. -/
import Derived.Test.YtofiafmbiedjnaaGreatDoorDetOps7
set_option autoImplicit false
namespace Go.Det

section
variable {P : Program} {E : Env} {μ : Ren} {st : St} {w : World} {base : Nat}

/-- The elder block keeps its first cells; the younger one is laid. `o'` is what lies at the elder's place afterwards. -/
theorem HR.growAt {h : Array Obj} {a : Addr} {el off sz : Nat} {all : List Value} {b2 : Nat} {st' : St} {L L' : Loc} {o' : Obj} (hr : HR μ st h base) (hg : growOpen st a el off sz all = some (b2, st')) (hb : μ a.block = some L)
    (hold : ∀ n c cls, st.heap.get a.block = some (.cells n c sz el true false cls) → off ≤ n → ObjR μ (.cells off c sz el true false cls) L o')
    {h2 : Array Obj} (h2e : h2 = h.setIfInBounds L.blk o' ∨ ∃ x, h2 = (h.setIfInBounds L.blk o').push x)
    (hL : base ≤ L'.blk ∧ L'.blk < h2.size) (hblk : L'.blk = L.blk ∨ L'.blk = h.size)
    (hobj : ∃ q, h2[L'.blk]? = some q ∧ ∀ c' cls, treeOf all 0 .nil = some c' → ObjR (upd μ st.next L') (.cells all.length c' sz el true false cls) L' q) :
    HR (upd μ st.next L') st' h2 base ∧ b2 = st.next ∧ (∀ g, g < st.next → μ g = none → st'.heap.get g = st.heap.get g) ∧ st'.next = st.next + 1 := by
  obtain ⟨n, c, cls, st1, h1, c', e1, e2, _, hk, hs, ht, hb2, hn, hh, hc⟩ := growOpen_spec hg
  obtain ⟨hr1, hself, hlone, hghost, hnext⟩ := hr.kill hk e1 rfl
  obtain ⟨l, _, _, _, hj⟩ := St.kill_spec hk
  have hr2 := hr1.turn hb hself hs (.inl rfl) (fun d M q hM hq lq hne => hlone d L M q hb hM hq lq hne) (hold n c cls e1 e2)
  have hr3 : HR μ { st1 with heap := h1 } h2 base := by
    rcases h2e with rfl | ⟨x, rfl⟩
    · exact hr2
    · exact hr2.push_only x
  obtain ⟨q, hq1, hq2⟩ := hobj
  have hget : ∀ m, h1.get m = if m = a.block then some (.cells off c sz el true false cls) else st1.heap.get m := fun m => Tr.get_set hs m
  have hcn : cls < st1.next := (hr1.cls a.block _ cls hself rfl).1
  refine ⟨?_, by rw [hb2, hnext], ?_, by rw [hn, hnext]⟩
  · rw [← hnext]
    refine HR.grow (st := { st1 with heap := h1 }) (k := cls) hr3 hb hcn hn hh rfl hc ?_ ?_ hL (by rw [hnext]; exact ⟨hq1, hq2 c' cls ht⟩)
    · intro d p hp hcl
      obtain ⟨_, l2, g1, g2⟩ := hr3.cls d p cls hp hcl
      simp only [] at g1
      rw [hj, if_pos rfl] at g1
      cases g1
      simpa using g2
    · intro d M p hM hp lp hMb
      simp only [] at hp
      by_cases e : d = a.block
      · rw [hget, if_pos e] at hp; cases hp; rfl
      · rw [hget, if_neg e] at hp
        rcases hblk with g | g
        · exact absurd (hMb.trans g) (hlone d L M p hb hM hp lp e)
        · have := (hr.inn d M hM).2
          omega
  · intro g hgn hgm
    rw [hh, if_neg (by omega), hget, if_neg (fun e => by rw [e, hb] at hgm; cases hgm)]
    exact hghost g hgn hgm

/-- There was room: written where it lay. -/
theorem HR.growIn {b o el off sz cap' : Nat} {old new new' : List Value} {b2 : Nat} {st' : St} {L : Loc} (hr : HR μ st w.heap base) (hg : growOpen st ⟨b, o, none⟩ el off sz (old ++ new) = some (b2, st')) (hb : μ b = some L)
    (hoff : off = o + old.length) (hroom : L.off + o + cap' * L.sz = L.off + L.room) (hfit : old.length + new.length ≤ cap' * L.sz)
    (hold : ∀ (i : Nat) (v : Value), old[i]? = some v → ∃ v', w.cell? ⟨L.blk, L.off + o + i, none⟩ = some v' ∧ VR μ v v') (hnew : VRL μ new new') :
    ∃ w' μ', (storeCells ⟨L.blk, L.off + off, none⟩ new').run P w = .ok () w' ∧ HR μ' st' w'.heap base ∧ Ex μ st w μ' st' w' base ∧ μ' b2 = some ⟨L.blk, L.off + o, cap' * L.sz, L.sz⟩ := by
  obtain ⟨n, c, cls, st1, h1, c', e1, e2, e3, hk, hs, ht, hb2, hn, hh, hc⟩ := growOpen_spec hg
  simp only [] at e1
  obtain ⟨ob, ho', hR⟩ := hr.obj b L _ hb e1
  cases ob with
  | cells a el' fz =>
    obtain ⟨r1, r2, r3, r4, r5, r6⟩ := hR
    have hl' : new'.length = new.length := hnew.length
    have hlt := (hr.inn b L hb).2
    have hrun := run_storeCells (P := P) (off := L.off + off) new' 0 a w ho' (by rw [r1, hl', hoff]; omega) (hnew.flat fun v hv => e3 v (List.mem_append_right _ hv)) (noFrz (r6 rfl))
    have hsz : (wr a (L.off + off + 0) new').size = a.size := wr_size _ _ _
    have hfitw : L.off + off + 0 + new'.length ≤ a.size := by rw [r1, hl', hoff]; omega
    have hsub : Sub μ (upd μ st.next ⟨L.blk, L.off + o, cap' * L.sz, L.sz⟩) := sub_upd _ (hr.fresh _ (Nat.le_refl _))
    obtain ⟨g1, g2, g3, g4⟩ := HR.growAt (L' := ⟨L.blk, L.off + o, cap' * L.sz, L.sz⟩) (o' := .cells (wr a (L.off + off + 0) new') el' fz) (h2 := (w.putObj L.blk (.cells (wr a (L.off + off + 0) new') el' fz)).heap) hr hg hb
      (fun n' c2 cls2 hq hle => by
        simp only [] at hq
        rw [e1] at hq
        simp only [Option.some.injEq, AObj.cells.injEq] at hq
        obtain ⟨rfl, rfl, _, _, _, _, rfl⟩ := hq
        refine ⟨by rw [hsz]; exact r1, by omega, (fun e => by cases e), r4, fun i hi v hv => ?_, fun _ => by rw [hsz]; exact r6 rfl⟩
        rw [wr_get new' a _ _ hfitw, if_neg (by omega)]
        exact r5 i (by omega) v hv)
      (.inl rfl) ⟨(hr.inn b L hb).1, by show L.blk < _; simp [World.putObj]; exact hlt⟩ (.inl rfl)
      ⟨_, World.putObj_heap_same hlt, fun c2 cls2 ht2 => by
        refine ⟨by rw [hsz, r1]; show _ = L.off + o + cap' * L.sz; omega, by simp only [List.length_append]; exact hfit, (fun e => by cases e), r4, fun i hi v hv => ?_, fun _ => by rw [hsz]; exact r6 rfl⟩
        rw [treeOf_get ht2 hi] at hv
        show ∃ v', (wr a (L.off + off + 0) new')[L.off + o + i]? = some v' ∧ _
        rw [wr_get new' a _ _ hfitw]
        rcases Nat.lt_or_ge i old.length with g | g
        · rw [if_neg (by omega)]
          rw [List.getElem?_append_left g] at hv
          obtain ⟨v', x, y⟩ := hold i v hv
          refine ⟨v', ?_, y.mono hsub⟩
          simpa [World.cell?, ho'] using x
        · rw [List.getElem?_append_right g] at hv
          have hi2 : i < old.length + new.length := by simpa using hi
          rw [if_pos (by omega)]
          obtain ⟨v', x, y⟩ := hnew.get hv
          refine ⟨v', ?_, y.mono hsub⟩
          have : L.off + o + i - (L.off + off + 0) = i - old.length := by omega
          rw [this]; exact x⟩
    refine ⟨_, _, hrun, g1, ⟨hsub, fun g hg' hm => ⟨?_, g3 g hg' hm⟩, by omega, fun B hB => ?_, by simp [World.putObj], rfl, rfl⟩, by rw [g2]; exact upd_self _ _ _⟩
    · rw [upd_ne μ _ (by omega)]; exact hm
    · have := (hr.inn b L hb).1
      exact World.putObj_heap_other (by omega)
  | _ => exact hR.elim

theorem setIfInBounds_self {h : Array Obj} {B : Nat} {o : Obj} (e : h[B]? = some o) : h.setIfInBounds B o = h := by
  apply Array.ext_getElem?
  intro i
  by_cases g : B = i
  · subst g
    have hlt : B < h.size := by
      rcases Nat.lt_or_ge B h.size with g | g
      · exact g
      · rw [Array.getElem?_eq_none g] at e; cases e
    rw [e]; simp [hlt]
  · rw [Array.getElem?_setIfInBounds_ne g]

/-- There was none: laid in new memory. -/
theorem HR.growNew {b o el off sz : Nat} {all : List Value} {arr : Array Value} {b2 : Nat} {st' : St} {L : Loc} (hr : HR μ st w.heap base) (hg : growOpen st ⟨b, o, none⟩ el off sz all = some (b2, st')) (hb : μ b = some L)
    {w' : World} (hw : w'.heap = w.heap.push (.cells arr el (0, 0))) (hos : w'.os = w.os) (hout : w'.output = w.output) (hfit : all.length ≤ arr.size)
    (hall : ∀ (i : Nat) (v : Value), all[i]? = some v → ∃ v', arr[i]? = some v' ∧ VR μ v v') :
    ∃ μ', HR μ' st' w'.heap base ∧ Ex μ st w μ' st' w' base ∧ μ' b2 = some ⟨w.heap.size, 0, arr.size, sz⟩ := by
  obtain ⟨n, c, cls, st1, h1, c', e1, e2, e3, hk, hs, ht, hb2, hn, hh, hc⟩ := growOpen_spec hg
  simp only [] at e1
  obtain ⟨ob, ho', hR⟩ := hr.obj b L _ hb e1
  have hlt := (hr.inn b L hb).2
  have hsub : Sub μ (upd μ st.next ⟨w.heap.size, 0, arr.size, sz⟩) := sub_upd _ (hr.fresh _ (Nat.le_refl _))
  obtain ⟨g1, g2, g3, g4⟩ := HR.growAt (L' := ⟨w.heap.size, 0, arr.size, sz⟩) (o' := ob) (h2 := w'.heap) hr hg hb
    (fun n' c2 cls2 hq hle => by
      simp only [] at hq
      rw [e1] at hq
      simp only [Option.some.injEq, AObj.cells.injEq] at hq
      obtain ⟨rfl, rfl, _, _, _, _, rfl⟩ := hq
      cases ob with
      | cells a el' fz =>
        obtain ⟨r1, r2, r3, r4, r5, r6⟩ := hR
        exact ⟨r1, by omega, (fun e => by cases e), r4, fun i hi v hv => r5 i (by omega) v hv, r6⟩
      | _ => exact hR.elim)
    (.inr ⟨_, by rw [setIfInBounds_self ho', hw]⟩) ⟨hr.le, by rw [hw]; simp⟩ (.inr rfl)
    ⟨_, by rw [hw]; exact Array.getElem?_push_size, fun c2 cls2 ht2 => by
      refine ⟨by simp, hfit, (fun e => by cases e), ⟨rfl, rfl⟩, fun i hi v hv => ?_, fun _ => .inl rfl⟩
      rw [treeOf_get ht2 hi] at hv
      obtain ⟨v', x, y⟩ := hall i v hv
      exact ⟨v', by simpa using x, y.mono hsub⟩⟩
  refine ⟨_, g1, ⟨hsub, fun g hg' hm => ⟨?_, g3 g hg' hm⟩, by omega, fun B hB => ?_, by rw [hw]; simp, hos, hout⟩, by rw [g2]; exact upd_self _ _ _⟩
  · rw [upd_ne μ _ (by omega)]; exact hm
  · have := hr.le
    rw [hw, Array.getElem?_push_lt (by omega), Array.getElem?_eq_getElem (by omega)]

end
end Go.Det
