/- A law's row: true is handed back, and what was there reads as it did. -/
import Derived.Test.YtofiafmbiedjnaaGreatDoorDetEnv
import Derived.Carry
import Derived.ChangeSame
set_option autoImplicit false
namespace Go.Det
open Go.RowKit Go.WideElems Go.WideShapes Go.ChangeShapes

section
variable {H : Type} {enc : TypeId × Value → H} {P : Program}

theorem same_of_frame {W W' : World} (hb : ∀ B, B < W.heap.size → W'.heap[B]? = W.heap[B]?) {p : MemPlace} (hp : p.block < W.heap.size) : W.sameAt W' p := by
  cases p with
  | cell b o => exact World.cell?_of_block (w := W) (hb b hp)
  | map b => exact hb b hp

theorem kept_of_frame {W W' : World} (hb : ∀ B, B < W.heap.size → W'.heap[B]? = W.heap[B]?) (ho : W'.os = W.os) (hp : W'.output = W.output) (may : MemPlace → Prop) : W.keptBut W' may := by
  refine ⟨ho, hp, fun i hi => ?_⟩
  rw [hb i hi]
  split <;> simp_all

theorem trodAll_stays (hl : laidOutB P = true) {W W' : World} (hb : ∀ B, B < W.heap.size → W'.heap[B]? = W.heap[B]?) : ∀ (ts : List TypeId) (vs : List Value) (ds : List (DataW H)) (ps : List MemPlace), (∀ t ∈ ts, P.readableRec t = true ∧ t < P.types.size) →
    (∀ p ∈ ps, p.block < W.heap.size) → DataW.TrodAll enc P W 0 (fun _ => true) true ts vs ds ps → DataW.TrodAll enc P W' 0 (fun b => decide (b < W.heap.size)) true ts vs ds ps
  | [], [], [], ps, _, _, h => h
  | t :: ts, v :: vs, d :: ds, ps, ht, hp, h => by
    obtain ⟨p, q, h1, h2, e⟩ := h
    have hp1 : ∀ x ∈ p, x.block < W.heap.size := fun x hx => hp x (by rw [e]; exact List.mem_append_left _ hx)
    have hp2 : ∀ x ∈ q, x.block < W.heap.size := fun x hx => hp x (by rw [e]; exact List.mem_append_right _ hx)
    obtain ⟨r1, r2⟩ := ht t (by simp)
    exact ⟨p, q, Trod_stays hl r1 r2 h1 (fun x hx => same_of_frame hb (hp1 x hx)) (fun x hx => by simpa using hp1 x hx), trodAll_stays hl hb ts vs ds q (fun u hu => ht u (by simp [hu])) hp2 h2, e⟩
  | [], _ :: _, _, _, _, _, h => h.elim
  | [], [], _ :: _, _, _, _, h => h.elim
  | _ :: _, [], _, _, _, _, h => h.elim
  | _ :: _, _ :: _, [], _, _, _, h => h.elim

/-- The row's end. -/
theorem law_post (hl : laidOutB P = true) {f : Func} {s : ChangeSpec} {tb : TypeId} {apart fresh handsOn : Bool} {W W' : World} {args : Array Value} {ds gs : List (DataW H)} {before : List MemPlace} (hv : s.vars = []) (hres : f.resultTypes = #[tb])
    (hb : P.underlying tb = some .bool) (hfn : (s.fn H ds).results = [.lit (.bool true)] ∧ (s.fn H ds).args = ds ∧ (s.fn H ds).vars = []) (hread : ∀ t ∈ f.params.toList, P.readableRec t = true ∧ t < P.types.size)
    (hW : DataW.Whole enc P f.params.toList s.vars apart W args.toList ds gs before) (hf : ∀ B, B < W.heap.size → W'.heap[B]? = W.heap[B]?) (ho : W'.os = W.os) (hp : W'.output = W.output) :
    s.post enc P f apart fresh handsOn false W args (.bool true) W' := by
  have hW' := hW
  have hlt : ∀ p ∈ before, p.block < W.heap.size := fun p hp => hW.lt p hp
  obtain ⟨p, q, hA, hV, rfl, hz, hn⟩ := hW
  rw [hv] at hV
  obtain ⟨rfl, rfl⟩ := trodVars_none hV
  refine ⟨ds, [], p ++ [], [], p ++ [], [], hW', ?_, ?_, ?_, kept_of_frame hf ho hp _, fun h => by cases h⟩
  · rw [hres, List.append_nil, hfn.1]
    exact trodAll_mk1 (shut_bool hb true)
  · rw [List.append_nil, hfn.2.1, List.append_nil]
    exact trodAll_stays hl hf _ _ _ _ hread (fun x hx => hlt x (by simp [hx])) hA
  · rw [List.append_nil, hfn.2.2, hv]
    rfl

end
end Go.Det
