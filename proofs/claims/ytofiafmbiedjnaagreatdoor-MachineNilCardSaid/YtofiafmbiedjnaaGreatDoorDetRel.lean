/- What an abstract heap says of a world. -/
import Derived.Test.YtofiafmbiedjnaaGreatDoorDet
import Derived.Laws.Cells
set_option autoImplicit false
namespace Go.Det

/-! ## Trees -/
theorem Tr.get_nil {α : Type} (n : Nat) : (Tr.nil : Tr α).get n = none := rfl
theorem Tr.get_zero {α : Type} (v : Option α) (l r : Tr α) : (Tr.node v l r).get 0 = v := rfl
theorem even_beq (m : Nat) : Nat.beq (Nat.mod m 2) 0 = decide (m % 2 = 0) := by
  show Nat.beq (m % 2) 0 = _
  rw [Bool.eq_iff_iff, Nat.beq_eq]; simp
theorem Tr.get_succ {α : Type} (v : Option α) (l r : Tr α) (m : Nat) : (Tr.node v l r).get (m + 1) = if m % 2 = 0 then l.get (m / 2) else r.get (m / 2) := by
  show Bool.rec (motive := fun _ => Option α) (r.get (Nat.div m 2)) (l.get (Nat.div m 2)) (Nat.beq (Nat.mod m 2) 0) = _
  rw [even_beq]
  by_cases h : m % 2 = 0 <;> simp only [h, decide_true, decide_false, if_true, if_false] <;> rfl
theorem Tr.only_succ {α : Type} (f m : Nat) (a : α) : Tr.only (f + 1) (m + 1) a = if m % 2 = 0 then .node none (Tr.only f (m / 2) a) .nil else .node none .nil (Tr.only f (m / 2) a) := by
  show Bool.rec (motive := fun _ => Tr α) (.node none .nil (Tr.only f (Nat.div m 2) a)) (.node none (Tr.only f (Nat.div m 2) a) .nil) (Nat.beq (Nat.mod m 2) 0) = _
  rw [even_beq]
  by_cases h : m % 2 = 0 <;> simp only [h, decide_true, decide_false, if_true, if_false] <;> rfl
theorem Tr.setF_succ {α : Type} (v : Option α) (l r : Tr α) (m : Nat) (a : α) : (Tr.node v l r).setF (m + 1) a = if m % 2 = 0 then .node v (l.setF (m / 2) a) r else .node v l (r.setF (m / 2) a) := by
  show Bool.rec (motive := fun _ => Tr α) (.node v l (r.setF (Nat.div m 2) a)) (.node v (l.setF (Nat.div m 2) a) r) (Nat.beq (Nat.mod m 2) 0) = _
  rw [even_beq]
  by_cases h : m % 2 = 0 <;> simp only [h, decide_true, decide_false, if_true, if_false] <;> rfl

theorem Tr.get_only {α : Type} : ∀ (f n m : Nat) (a : α), n + 1 < 2 ^ f → (Tr.only f n a).get m = if m = n then some a else none := by
  intro f
  induction f with
  | zero => intro n m a h; simp at h
  | succ f ih =>
    intro n m a h
    have hp : (2 : Nat) ^ (f + 1) = 2 * 2 ^ f := by rw [Nat.pow_succ]; omega
    cases n with
    | zero => cases m with
      | zero => rfl
      | succ m =>
        show (Tr.node (some a) .nil .nil).get (m + 1) = _
        rw [Tr.get_succ]; simp [Tr.get_nil]
    | succ n =>
      have hn : n / 2 + 1 < 2 ^ f := by omega
      rw [Tr.only_succ]
      cases m with
      | zero => by_cases h2 : n % 2 = 0 <;> simp [h2, Tr.get_zero]
      | succ m =>
        have : (m / 2 = n / 2 ∧ m % 2 = n % 2) ↔ (m + 1 = n + 1) := by omega
        by_cases hn2 : n % 2 = 0 <;> by_cases hm2 : m % 2 = 0 <;> simp only [hn2, hm2, if_true, if_false, Tr.get_succ, Tr.get_nil]
        · rw [ih _ _ _ hn]
          have : (m / 2 = n / 2) ↔ (m + 1 = n + 1) := by omega
          simp only [this]
        · rw [if_neg (by omega)]
        · rw [if_neg (by omega)]
        · rw [ih _ _ _ hn]
          have : (m / 2 = n / 2) ↔ (m + 1 = n + 1) := by omega
          simp only [this]

theorem Tr.get_setF {α : Type} : ∀ (t : Tr α) (n m : Nat) (a : α), n + 1 < 2 ^ 24 → (t.setF n a).get m = if m = n then some a else t.get m := by
  intro t
  induction t with
  | nil => intro n m a h; exact (Tr.get_only 24 n m a h).trans (by rw [Tr.get_nil])
  | node v l r ihl ihr =>
    intro n m a h
    cases n with
    | zero => cases m with
      | zero => rfl
      | succ m =>
        show (Tr.node (some a) l r).get (m + 1) = _
        rw [Tr.get_succ, Tr.get_succ]; simp
    | succ n =>
      have hn : n / 2 + 1 < 2 ^ 24 := by omega
      rw [Tr.setF_succ]
      cases m with
      | zero => by_cases h2 : n % 2 = 0 <;> simp [h2, Tr.get_zero]
      | succ m =>
        by_cases hn2 : n % 2 = 0 <;> by_cases hm2 : m % 2 = 0 <;> simp only [hn2, hm2, if_true, if_false, Tr.get_succ]
        · rw [ihl _ _ _ hn]
          have : (m / 2 = n / 2) ↔ (m + 1 = n + 1) := by omega
          simp only [this]
        · rw [if_neg (by omega)]
        · rw [if_neg (by omega)]
        · rw [ihr _ _ _ hn]
          have : (m / 2 = n / 2) ↔ (m + 1 = n + 1) := by omega
          simp only [this]

theorem setF_mem {α : Type} : ∀ (t : Tr α) (n m : Nat) (a b : α), (t.setF n a).get m = some b → (m = n ∧ b = a) ∨ t.get m = some b := by
  have only : ∀ (f n m : Nat) (a b : α), (Tr.only f n a).get m = some b → m = n ∧ b = a := by
    intro f
    induction f with
    | zero => intro n m a b h; cases h
    | succ f ih =>
      intro n m a b h
      cases n with
      | zero =>
        cases m with
        | zero => exact ⟨rfl, (Option.some.inj h).symm⟩
        | succ m =>
          have h : (Tr.node (some a) .nil .nil).get (m + 1) = some b := h
          rw [Tr.get_succ] at h
          split at h <;> cases h
      | succ n =>
        rw [Tr.only_succ] at h
        cases m with
        | zero => by_cases h2 : n % 2 = 0 <;> simp [h2, Tr.get_zero] at h
        | succ m =>
          by_cases hn2 : n % 2 = 0 <;> by_cases hm2 : m % 2 = 0 <;> simp only [hn2, hm2, if_true, if_false, Tr.get_succ, Tr.get_nil] at h
          · obtain ⟨e, rfl⟩ := ih _ _ _ _ h; exact ⟨by omega, rfl⟩
          · cases h
          · cases h
          · obtain ⟨e, rfl⟩ := ih _ _ _ _ h; exact ⟨by omega, rfl⟩
  intro t
  induction t with
  | nil => intro n m a b h; exact .inl (only 24 n m a b h)
  | node v l r ihl ihr =>
    intro n m a b h
    cases n with
    | zero =>
      cases m with
      | zero => exact .inl ⟨rfl, (Option.some.inj h).symm⟩
      | succ m =>
        right
        have h : (Tr.node (some a) l r).get (m + 1) = some b := h
        rw [Tr.get_succ] at h ⊢
        exact h
    | succ n =>
      rw [Tr.setF_succ] at h
      cases m with
      | zero => right; by_cases h2 : n % 2 = 0 <;> simp only [h2, if_true, if_false, Tr.get_zero] at h ⊢ <;> exact h
      | succ m =>
        by_cases hn2 : n % 2 = 0 <;> by_cases hm2 : m % 2 = 0 <;> simp only [hn2, hm2, if_true, if_false, Tr.get_succ] at h ⊢
        · rcases ihl _ _ _ _ h with ⟨e, rfl⟩ | h
          · exact .inl ⟨by omega, rfl⟩
          · exact .inr h
        · exact .inr h
        · exact .inr h
        · rcases ihr _ _ _ _ h with ⟨e, rfl⟩ | h
          · exact .inl ⟨by omega, rfl⟩
          · exact .inr h

theorem ofList_mem {α : Type} (l : List (Nat × α)) {n : Nat} {a : α} (h : (Tr.ofList l).get n = some a) : (n, a) ∈ l := by
  have key : ∀ (l : List (Nat × α)) (t : Tr α), (l.foldl (fun t x => t.setF x.1 x.2) t).get n = some a → (n, a) ∈ l ∨ t.get n = some a := by
    intro l
    induction l with
    | nil => intro t h; exact .inr h
    | cons x l ih =>
      intro t h
      rcases ih _ h with h | h
      · exact .inl (List.mem_cons_of_mem _ h)
      · rcases setF_mem _ _ _ _ _ h with ⟨e1, e2⟩ | h
        · left; rw [e1, e2]; simp
        · exact .inr h
  rcases key l .nil h with h | h
  · exact h
  · cases h

theorem Tr.get_set {α : Type} {t t' : Tr α} {n : Nat} {a : α} (h : t.set n a = some t') (m : Nat) : t'.get m = if m = n then some a else t.get m := by
  unfold Tr.set at h
  cases hb : Nat.blt n lim with
  | false => rw [hb] at h; cases h
  | true =>
    rw [hb] at h
    simp only [cond_true, Option.some.injEq] at h
    subst h
    refine Tr.get_setF t n m a ?_
    have : n < lim := by simpa [Nat.blt_eq] using hb
    unfold lim at this
    have e : (2 : Nat) ^ 24 = 16777216 := by decide
    omega

theorem Tr.get_set_self {α : Type} {t t' : Tr α} {n : Nat} {a : α} (h : t.set n a = some t') : t'.get n = some a := by rw [Tr.get_set h]; simp
theorem Tr.get_set_ne {α : Type} {t t' : Tr α} {n m : Nat} {a : α} (h : t.set n a = some t') (hm : m ≠ n) : t'.get m = t.get m := by rw [Tr.get_set h]; simp [hm]

/-! ## Places and values -/
/-- Where an abstract block lies: in which block, from where on, how many cells there are, how many an element has. -/
structure Loc where
  blk : Nat
  off : Nat
  room : Nat
  sz : Nat

/-- Where abstract blocks lie; and values that are never looked into. -/
structure Ren where
  loc : Nat → Option Loc
  opq : Nat → Option Value

instance : CoeFun Ren fun _ => Nat → Option Loc := ⟨Ren.loc⟩

def FnR (μ : Ren) : Fn → Fn → Prop
  | .yield l, f => ∃ L, μ l = some L ∧ f = .yield L.blk
  | f, g => g = f

/-- A slice's place and capacity. -/
def SlR (L : Loc) (o len cap o' cap' : Nat) : Prop :=
  len ≤ cap' ∧ (cap < big → cap' = cap ∧ (o' = L.off + o ∨ cap = 0)) ∧
  (big ≤ cap → (o' = L.off + o ∧ o' + cap' * L.sz = L.off + L.room) ∨ (cap' = 0 ∧ len = 0 ∧ o = L.room))

mutual
inductive VR (μ : Ren) : Value → Value → Prop
  | bool (b : Bool) : VR μ (.bool b) (.bool b)
  | int (k : IntKind) (n : Int) : VR μ (.int k n) (.int k n)
  | string (s : ByteArray) : VR μ (.string s) (.string s)
  | pnil : VR μ (.pointer none) (.pointer none)
  | ptr (b o : Nat) (L : Loc) (h : μ b = some L) : VR μ (.pointer (some ⟨b, o, none⟩)) (.pointer (some ⟨L.blk, L.off + o, none⟩))
  | snil : VR μ (.slice none 0 0) (.slice none 0 0)
  | slice (b o : Nat) (L : Loc) (len cap o' cap' : Nat) (h : μ b = some L) (hs : SlR L o len cap o' cap') :
      VR μ (.slice (some ⟨b, o, none⟩) len cap) (.slice (some ⟨L.blk, o', none⟩) len cap')
  | mnil : VR μ (.map none) (.map none)
  | map (b : Nat) (L : Loc) (h : μ b = some L) : VR μ (.map (some b)) (.map (some L.blk))
  | opq (i : Nat) (v : Value) (h : μ.opq i = some v) (hf : v.oneCell' = true) (hb : ∀ b, v ≠ .bool b) : VR μ (.chan (some i)) v
  | low (k : FloatKind) (lb : Nat) (n : Int) (h : (lb : Int) ≤ n) : VR μ (.float k lb) (.int .i64 n)
  | high (k : FloatKind) (f ub : Nat) (n : Int) (h : f = 1 → n ≤ (ub : Int)) : VR μ (.complex k f ub) (.int .i64 n)
  | nilFunc : VR μ .nilFunc .nilFunc
  | nilIface : VR μ .nilIface .nilIface
  | func (f g : Fn) (a a' c c' : Array Value) (hf : FnR μ f g) (ha : VRL μ a.toList a'.toList) (hc : VRL μ c.toList c'.toList) : VR μ (.func f a c) (.func g a' c')
  | agg (a a' : Array Value) (h : VRL μ a.toList a'.toList) : VR μ (.agg a) (.agg a')
  | tuple (a a' : Array Value) (h : VRL μ a.toList a'.toList) : VR μ (.tuple a) (.tuple a')
inductive VRL (μ : Ren) : List Value → List Value → Prop
  | nil : VRL μ [] []
  | cons {v v' : Value} {l l' : List Value} (h : VR μ v v') (t : VRL μ l l') : VRL μ (v :: l) (v' :: l')
end

def Sub (μ μ' : Ren) : Prop := (∀ b L, μ b = some L → μ' b = some L) ∧ μ'.opq = μ.opq

theorem Sub.refl (μ : Ren) : Sub μ μ := ⟨fun _ _ h => h, rfl⟩
theorem Sub.trans {a b c : Ren} (h : Sub a b) (g : Sub b c) : Sub a c := ⟨fun _ _ x => g.1 _ _ (h.1 _ _ x), g.2.trans h.2⟩

theorem FnR.mono {μ μ' : Ren} (h : Sub μ μ') {f g : Fn} (r : FnR μ f g) : FnR μ' f g := by
  cases f <;> first | exact r | (obtain ⟨L, a, b⟩ := r; exact ⟨L, h.1 _ _ a, b⟩)

mutual
theorem VR.mono {μ μ' : Ren} (h : Sub μ μ') : ∀ {v v' : Value}, VR μ v v' → VR μ' v v'
  | _, _, .bool b => .bool b
  | _, _, .int k n => .int k n
  | _, _, .string s => .string s
  | _, _, .pnil => .pnil
  | _, _, .ptr b o L e => .ptr b o L (h.1 _ _ e)
  | _, _, .snil => .snil
  | _, _, .slice b o L len cap o' cap' e hs => .slice b o L len cap o' cap' (h.1 _ _ e) hs
  | _, _, .mnil => .mnil
  | _, _, .map b L e => .map b L (h.1 _ _ e)
  | _, _, .opq i v e hf hb => .opq i v (by rw [h.2]; exact e) hf hb
  | _, _, .low k lb n g => .low k lb n g
  | _, _, .high k f ub n g => .high k f ub n g
  | _, _, .nilFunc => .nilFunc
  | _, _, .nilIface => .nilIface
  | _, _, .func f g a a' c c' hf ha hc => .func f g a a' c c' (hf.mono h) (VRL.mono h ha) (VRL.mono h hc)
  | _, _, .agg a a' t => .agg a a' (VRL.mono h t)
  | _, _, .tuple a a' t => .tuple a a' (VRL.mono h t)
theorem VRL.mono {μ μ' : Ren} (h : Sub μ μ') : ∀ {l l' : List Value}, VRL μ l l' → VRL μ' l l'
  | _, _, .nil => .nil
  | _, _, .cons a t => .cons (VR.mono h a) (VRL.mono h t)
end

section lists
variable {μ : Ren}
theorem VRL.length {l l' : List Value} (h : VRL μ l l') : l'.length = l.length := by
  induction l generalizing l' with
  | nil => cases h; rfl
  | cons v l ih => cases h with | cons a t => simp [ih t]

theorem VRL.get {l l' : List Value} (h : VRL μ l l') {i : Nat} {v : Value} (hi : l[i]? = some v) : ∃ v', l'[i]? = some v' ∧ VR μ v v' := by
  induction l generalizing l' i with
  | nil => simp at hi
  | cons x l ih =>
    cases h with
    | cons a t => cases i with
      | zero => simp at hi; subst hi; exact ⟨_, by simp, a⟩
      | succ i => simp at hi; obtain ⟨v', e, r⟩ := ih t hi; exact ⟨v', by simpa using e, r⟩

theorem VRL.append {a a' b b' : List Value} (h : VRL μ a a') (g : VRL μ b b') : VRL μ (a ++ b) (a' ++ b') := by
  induction a generalizing a' with
  | nil => cases h; exact g
  | cons v l ih => cases h with | cons x t => exact .cons x (ih t)

theorem VRL.take {a a' : List Value} (h : VRL μ a a') (n : Nat) : VRL μ (a.take n) (a'.take n) := by
  induction a generalizing a' n with
  | nil => cases h; simp; exact .nil
  | cons v l ih => cases h with | cons x t => cases n with
    | zero => exact .nil
    | succ n => exact .cons x (ih t n)

theorem VRL.drop {a a' : List Value} (h : VRL μ a a') (n : Nat) : VRL μ (a.drop n) (a'.drop n) := by
  induction a generalizing a' n with
  | nil => cases h; simp; exact .nil
  | cons v l ih => cases h with | cons x t => cases n with
    | zero => exact .cons x t
    | succ n => exact ih t n

theorem VRL.of_get {a a' : List Value} (hl : a'.length = a.length) (h : ∀ (i : Nat) (v : Value), a[i]? = some v → ∃ v', a'[i]? = some v' ∧ VR μ v v') : VRL μ a a' := by
  induction a generalizing a' with
  | nil => cases a' with
    | nil => exact .nil
    | cons x t => simp at hl
  | cons v l ih => cases a' with
    | nil => simp at hl
    | cons x t =>
      obtain ⟨v', e, r⟩ := h 0 v (by simp)
      simp at e; subst e
      exact .cons r (ih (by simpa using hl) fun i u hu => by
        obtain ⟨u', e', r'⟩ := h (i + 1) u (by simpa using hu)
        exact ⟨u', by simpa using e', r'⟩)
end lists

theorem cells_one {v : Value} (h : v.oneCell' = true) : cellsOf v = [v] := by
  cases v <;> first | rfl | cases h

theorem VR.cells {μ : Ren} {v v' : Value} (h : VR μ v v') : VRL μ (cellsOf v) (cellsOf v') := by
  cases h with
  | agg a a' h => exact h
  | opq i v h hf hb => rw [cells_one hf]; exact .cons (.opq i v' h hf hb) .nil
  | bool b => exact .cons (.bool b) .nil
  | int k n => exact .cons (.int k n) .nil
  | string s => exact .cons (.string s) .nil
  | pnil => exact .cons .pnil .nil
  | ptr b o L h => exact .cons (.ptr b o L h) .nil
  | snil => exact .cons .snil .nil
  | slice b o L len cap o' cap' h hs => exact .cons (.slice b o L len cap o' cap' h hs) .nil
  | mnil => exact .cons .mnil .nil
  | map b L h => exact .cons (.map b L h) .nil
  | low k lb n h => exact .cons (.low k lb n h) .nil
  | high k f ub n h => exact .cons (.high k f ub n h) .nil
  | nilFunc => exact .cons .nilFunc .nil
  | nilIface => exact .cons .nilIface .nil
  | func f g a a' c c' hf ha hc => exact .cons (.func f g a a' c c' hf ha hc) .nil
  | tuple a a' h => exact .cons (.tuple a a' h) .nil

theorem VR.flat_eq {μ : Ren} {v v' : Value} (h : VR μ v v') : v'.oneCell' = flat v := by
  cases h <;> first | rfl | assumption

theorem VRL.one {μ : Ren} {v v' : Value} (h : VR μ v v') : VRL μ [v] [v'] := .cons h .nil

/-- Temporaries. -/
def RR (μ : Ren) (ρ : Nat → Value) (tmps : Array Value) : Prop := ∀ i, VR μ (ρ i) (tmps.getD i undef)

theorem RR.mono {μ μ' : Ren} (h : Sub μ μ') {ρ : Nat → Value} {t : Array Value} (r : RR μ ρ t) : RR μ' ρ t := fun i => (r i).mono h

/-! ## Heaps -/
def CellsR (μ : Ren) (n : Nat) (c : Tr Value) (sz : Nat) (elem : TypeId) (isOpen frz : Bool) (L : Loc) : Obj → Prop
  | .cells c' elem' fz => c'.size = L.off + L.room ∧ n ≤ L.room ∧ (isOpen = false → L.room = n ∧ L.off = 0 ∧ elem' = elem) ∧ (L.sz = sz ∧ elem' = elem) ∧
      (∀ i, i < n → ∀ v, c.get i = some v → ∃ v', c'[L.off + i]? = some v' ∧ VR μ v v') ∧
      (frz = false → fz.1 = fz.2 ∨ c'.size ≤ fz.1)
  | _ => False

structure EntryR (μ : Ren) (e e' : MapEntry) : Prop where
  key : VR μ e.key e'.key
  val : VR μ e.val e'.val
  born : e'.born = e.born

inductive EntriesR (μ : Ren) : List MapEntry → List MapEntry → Prop
  | nil : EntriesR μ [] []
  | cons {e e' : MapEntry} {l l' : List MapEntry} (h : EntryR μ e e') (t : EntriesR μ l l') : EntriesR μ (e :: l) (e' :: l')

def MapIxR (μ : Ren) : Option Nat → Option Nat → Prop
  | none, m' => m' = none
  | some b, m' => ∃ L, μ b = some L ∧ m' = some L.blk

def ObjR (μ : Ren) : AObj → Loc → Obj → Prop
  | .cells n c sz el op fz _, L, o => CellsR μ n c sz el op fz L o
  | .map es clock, _, o => ∃ es', o = .map es' clock ∧ EntriesR μ es es'.toList
  | .strIter s p, L, o => L.off = 0 ∧ o = .stringIter s p
  | .mapIter m since seen last stepped, L, o => L.off = 0 ∧ ∃ m' seen', o = .mapIter m' since seen' stepped ∧ MapIxR μ m m' ∧ (∀ x, x ∈ seen'.toList ↔ x ∈ seen) ∧ seen'.toList.getLast? = last
  | .loop l, _, o => ∃ tmps' defers ps' fn', o = .loop { state := l.state, pending := l.pending, fn := fn', tmps := tmps', params := ps', assign := l.assign, body := l.body, defers := defers } ∧
      ps'.toList = l.params ∧ tmps'.size = l.nt ∧ RR μ (look l.tmps) tmps'
  | .defd true, _, o => o = .deferred (some [])
  | .defd false, _, _ => False
  | .dead, _, _ => True

def clsOf : AObj → Option Nat
  | .cells _ _ _ _ _ _ k => some k
  | _ => none

def isLive : AObj → Bool
  | .dead => false
  | _ => true

structure HR (μ : Ren) (st : St) (h : Array Obj) (base : Nat) : Prop where
  fresh : ∀ b, st.next ≤ b → μ b = none
  inn : ∀ b L, μ b = some L → base ≤ L.blk ∧ L.blk < h.size
  heapIn : ∀ b o, st.heap.get b = some o → b < st.next
  obj : ∀ b L o, μ b = some L → st.heap.get b = some o → ∃ o', h[L.blk]? = some o' ∧ ObjR μ o L o'
  sep : ∀ b c L M o p, μ b = some L → μ c = some M → st.heap.get b = some o → st.heap.get c = some p → isLive o = true → isLive p = true → b ≠ c → L.blk = M.blk →
    ∃ k, clsOf o = some k ∧ clsOf p = some k
  cls : ∀ b o k, st.heap.get b = some o → clsOf o = some k → k < st.next ∧ ∃ l, st.cls.get k = some l ∧ b ∈ l
  clsIn : ∀ k l b, st.cls.get k = some l → b ∈ l → (∃ L, μ b = some L) ∨ l = [b]
  le : base ≤ h.size

/-- From one state and world to another. -/
structure Ex (μ : Ren) (st : St) (w : World) (μ' : Ren) (st' : St) (w' : World) (base : Nat) : Prop where
  sub : Sub μ μ'
  ghost : ∀ b, b < st.next → μ b = none → μ' b = none ∧ st'.heap.get b = st.heap.get b
  next : st.next ≤ st'.next
  frame : ∀ B, B < base → w'.heap[B]? = w.heap[B]?
  size : w.heap.size ≤ w'.heap.size
  os : w'.os = w.os
  output : w'.output = w.output

theorem Ex.refl (μ : Ren) (st : St) (w : World) (base : Nat) : Ex μ st w μ st w base :=
  ⟨Sub.refl _, fun _ _ h => ⟨h, rfl⟩, Nat.le_refl _, fun _ _ => rfl, Nat.le_refl _, rfl, rfl⟩

theorem Ex.trans {μ₁ μ₂ μ₃ : Ren} {s₁ s₂ s₃ : St} {w₁ w₂ w₃ : World} {base : Nat} (h : Ex μ₁ s₁ w₁ μ₂ s₂ w₂ base) (g : Ex μ₂ s₂ w₂ μ₃ s₃ w₃ base) : Ex μ₁ s₁ w₁ μ₃ s₃ w₃ base where
  sub := h.sub.trans g.sub
  ghost b hb hn := by
    obtain ⟨a, e⟩ := h.ghost b hb hn
    obtain ⟨a', e'⟩ := g.ghost b (Nat.lt_of_lt_of_le hb h.next) a
    exact ⟨a', e'.trans e⟩
  next := Nat.le_trans h.next g.next
  frame B hB := (g.frame B hB).trans (h.frame B hB)
  size := Nat.le_trans h.size g.size
  os := g.os.trans h.os
  output := g.output.trans h.output

/-- Nothing but a count of the world has turned. -/
theorem Ex.world {μ : Ren} {st : St} {w w' : World} {base : Nat} (h : w'.heap = w.heap) (ho : w'.os = w.os) (hp : w'.output = w.output) : Ex μ st w μ st w' base :=
  ⟨Sub.refl _, fun _ _ h => ⟨h, rfl⟩, Nat.le_refl _, fun _ _ => by rw [h], by rw [h]; exact Nat.le_refl _, ho, hp⟩

def upd (μ : Ren) (b : Nat) (L : Loc) : Ren := { μ with loc := fun c => if c = b then some L else μ c }

theorem upd_self (μ : Ren) (b : Nat) (L : Loc) : upd μ b L b = some L := by simp [upd]
theorem upd_ne (μ : Ren) {b c : Nat} (L : Loc) (h : c ≠ b) : upd μ b L c = μ c := by simp [upd, h]

theorem sub_upd {μ : Ren} {b : Nat} (L : Loc) (h : μ b = none) : Sub μ (upd μ b L) := ⟨fun c M hc => by
  have : c ≠ b := fun e => by rw [e, h] at hc; cases hc
  rw [upd_ne μ L this]; exact hc, rfl⟩

theorem EntriesR.mono {μ μ' : Ren} (h : Sub μ μ') {l l' : List MapEntry} (r : EntriesR μ l l') : EntriesR μ' l l' := by
  induction r with
  | nil => exact .nil
  | cons a _ ih => exact .cons ⟨a.key.mono h, a.val.mono h, a.born⟩ ih

theorem ObjR.mono {μ μ' : Ren} (h : Sub μ μ') {o : AObj} {L : Loc} {o' : Obj} (r : ObjR μ o L o') : ObjR μ' o L o' := by
  cases o with
  | cells n c sz el op fz k =>
    cases o' <;> first | exact r.elim | skip
    obtain ⟨a, b, c', d, e, f⟩ := r
    exact ⟨a, b, c', d, fun i hi v hv => let ⟨v', x, y⟩ := e i hi v hv; ⟨v', x, y.mono h⟩, f⟩
  | map es clock => obtain ⟨es', a, b⟩ := r; exact ⟨es', a, b.mono h⟩
  | strIter s p => exact r
  | mapIter m since seen last stepped =>
    obtain ⟨z, m', seen', a, b, c, d⟩ := r
    refine ⟨z, m', seen', a, ?_, c, d⟩
    cases m with
    | none => exact b
    | some x => obtain ⟨L, e, f⟩ := b; exact ⟨L, h.1 _ _ e, f⟩
  | loop l => obtain ⟨t, d, ps, fn, a, b, c, e⟩ := r; exact ⟨t, d, ps, fn, a, b, c, e.mono h⟩
  | defd b => cases b <;> exact r
  | dead => trivial

/-! ### A new block -/
theorem St.push_spec {st st' : St} {o : AObj} {b : Nat} (h : st.push o = some (b, st')) :
    b = st.next ∧ st'.next = st.next + 1 ∧ st'.cls = st.cls ∧ ∀ m, st'.heap.get m = if m = st.next then some o else st.heap.get m := by
  unfold St.push at h
  cases hs : st.heap.set st.next o with
  | none => rw [hs] at h; cases h
  | some t =>
    rw [hs] at h
    simp only [Option.some.injEq, Prod.mk.injEq] at h
    obtain ⟨rfl, rfl⟩ := h
    exact ⟨rfl, rfl, rfl, fun m => Tr.get_set hs m⟩

/-- A block more, of neither side known before. -/
theorem HR.more {μ : Ren} {st st' : St} {h : Array Obj} {base : Nat} {o : AObj} {L : Loc} {o' : Obj} (hr : HR μ st h base)
    (hn : st'.next = st.next + 1) (hh : ∀ m, st'.heap.get m = if m = st.next then some o else st.heap.get m)
    (hc : (clsOf o = none ∧ st'.cls = st.cls) ∨ (clsOf o = some st.next ∧ ∀ k, st'.cls.get k = if k = st.next then some [st.next] else st.cls.get k))
    (hL : L.blk = h.size) (ho : ObjR (upd μ st.next L) o L o') : HR (upd μ st.next L) st' (h.push o') base := by
  have hf := hr.fresh st.next (Nat.le_refl _)
  have hsub : Sub μ (upd μ st.next L) := sub_upd L hf
  have hlt : ∀ b M, μ b = some M → b < st.next := fun b M hb => by
    rcases Nat.lt_or_ge b st.next with g | g
    · exact g
    · rw [hr.fresh b g] at hb; cases hb
  refine ⟨?_, ?_, ?_, ?_, ?_, ?_, ?_, ?_⟩
  · intro b hb
    rw [upd_ne μ L (by omega)]
    exact hr.fresh b (by omega)
  · intro b M hb
    by_cases e : b = st.next
    · subst e; rw [upd_self] at hb; cases hb
      exact ⟨hL ▸ hr.le, by simp [hL]⟩
    · rw [upd_ne μ L e] at hb
      obtain ⟨a, c⟩ := hr.inn b M hb
      exact ⟨a, by simp; omega⟩
  · intro b p hb
    rw [hh] at hb
    by_cases e : b = st.next
    · omega
    · rw [if_neg e] at hb; have := hr.heapIn b p hb; omega
  · intro b M p hb hp
    rw [hh] at hp
    by_cases e : b = st.next
    · subst e; rw [upd_self] at hb; cases hb
      rw [if_pos rfl] at hp; cases hp
      exact ⟨o', by rw [hL]; simp, ho⟩
    · rw [upd_ne μ L e] at hb; rw [if_neg e] at hp
      obtain ⟨p', a, c⟩ := hr.obj b M p hb hp
      have hlt := (hr.inn b M hb).2
      exact ⟨p', by rw [Array.getElem?_push_lt hlt]; rw [Array.getElem?_eq_getElem hlt] at a; exact a, c.mono hsub⟩
  · intro b c M N p q hb hc' hp hq lp lq hne hblk
    rw [hh] at hp hq
    by_cases e : b = st.next
    · have e' : c ≠ st.next := fun x => hne (e.trans x.symm)
      subst e; rw [upd_self] at hb; cases hb
      rw [upd_ne μ L e'] at hc'
      have := (hr.inn c N hc').2
      omega
    · by_cases e' : c = st.next
      · subst e'; rw [upd_self] at hc'; cases hc'
        rw [upd_ne μ L e] at hb
        have := (hr.inn b M hb).2
        omega
      · rw [upd_ne μ L e] at hb; rw [upd_ne μ L e'] at hc'
        rw [if_neg e] at hp; rw [if_neg e'] at hq
        exact hr.sep b c M N p q hb hc' hp hq lp lq hne hblk
  · intro b p k hp hk
    rw [hh] at hp
    rw [hn]
    by_cases e : b = st.next
    · rw [if_pos e] at hp; cases hp
      rcases hc with ⟨h0, _⟩ | ⟨h1, h2⟩
      · rw [h0] at hk; cases hk
      · rw [h1] at hk; cases hk
        exact ⟨by omega, [st.next], by rw [h2]; simp, by simp [e]⟩
    · rw [if_neg e] at hp
      obtain ⟨a, l, g, m⟩ := hr.cls b p k hp hk
      refine ⟨by omega, l, ?_, m⟩
      rcases hc with ⟨_, h0⟩ | ⟨_, h2⟩
      · rw [h0]; exact g
      · rw [h2, if_neg (by omega)]; exact g
  · intro k l b hk hb
    rcases hc with ⟨_, h0⟩ | ⟨_, h2⟩
    · rw [h0] at hk
      rcases hr.clsIn k l b hk hb with ⟨M, hM⟩ | g
      · exact .inl ⟨M, hsub.1 _ _ hM⟩
      · exact .inr g
    · rw [h2] at hk
      by_cases e : k = st.next
      · rw [if_pos e] at hk; cases hk
        have : b = st.next := by simpa using hb
        exact .inr (by rw [this])
      · rw [if_neg e] at hk
        rcases hr.clsIn k l b hk hb with ⟨M, hM⟩ | g
        · exact .inl ⟨M, hsub.1 _ _ hM⟩
        · exact .inr g
  · have := hr.le; simp; omega

theorem Ex.more {μ : Ren} {st st' : St} {w w' : World} {base : Nat} {o : AObj} {L : Loc} {o' : Obj} (hr : HR μ st w.heap base)
    (hn : st'.next = st.next + 1) (hh : ∀ m, st'.heap.get m = if m = st.next then some o else st.heap.get m)
    (hw : w'.heap = w.heap.push o') (hos : w'.os = w.os) (hout : w'.output = w.output) : Ex μ st w (upd μ st.next L) st' w' base where
  sub := sub_upd L (hr.fresh _ (Nat.le_refl _))
  ghost b hb hm := by
    have e : b ≠ st.next := by omega
    exact ⟨by rw [upd_ne μ L e]; exact hm, by rw [hh, if_neg e]⟩
  next := by omega
  frame B hB := by
    have := hr.le
    rw [hw]
    have h1 : B < w.heap.size := by omega
    rw [Array.getElem?_push_lt h1, Array.getElem?_eq_getElem h1]
  size := by rw [hw]; simp
  os := hos
  output := hout

/-- A row of cells as a tree. -/
theorem treeOf_spec : ∀ (l : List Value) (i : Nat) (t t' : Tr Value), treeOf l i t = some t' → ∀ j, t'.get j = if i ≤ j ∧ j < i + l.length then l[j - i]? else t.get j := by
  intro l
  induction l with
  | nil => intro i t t' h j; simp [treeOf] at h; subst h; simp; omega
  | cons v r ih =>
    intro i t t' h j
    simp only [treeOf] at h
    cases hs : t.set i v with
    | none => rw [hs] at h; cases h
    | some t1 =>
      rw [hs] at h
      have h2 := ih (i + 1) t1 t' h j
      rw [h2, Tr.get_set hs]
      by_cases e : j = i
      · subst e
        rw [if_neg (by omega), if_pos rfl, if_pos (by simp)]
        simp
      · by_cases g : i ≤ j ∧ j < i + (v :: r).length
        · have g' : i + 1 ≤ j ∧ j < i + 1 + r.length := by simp at g; omega
          rw [if_pos g', if_pos g]
          obtain ⟨k, rfl⟩ : ∃ k, j = i + 1 + k := ⟨j - (i + 1), by omega⟩
          have e1 : i + 1 + k - (i + 1) = k := by omega
          have e2 : i + 1 + k - i = k + 1 := by omega
          rw [e1, e2]; simp
        · have g' : ¬ (i + 1 ≤ j ∧ j < i + 1 + r.length) := by simp at g; omega
          rw [if_neg g', if_neg g, if_neg e]

theorem treeOf_get {l : List Value} {t : Tr Value} (h : treeOf l 0 .nil = some t) {j : Nat} (hj : j < l.length) : t.get j = l[j]? := by
  rw [treeOf_spec l 0 .nil t h j, if_pos (by omega)]; simp

theorem St.row_spec {st st' : St} {vs : List Value} {sz el b : Nat} {op : Bool} (h : st.row vs sz el op = some (b, st')) :
    ∃ c, treeOf vs 0 .nil = some c ∧ b = st.next ∧ st'.next = st.next + 1 ∧ (∀ k, st'.cls.get k = if k = st.next then some [st.next] else st.cls.get k) ∧
      ∀ m, st'.heap.get m = if m = st.next then some (.cells vs.length c sz el op false st.next) else st.heap.get m := by
  unfold St.row at h
  cases hc : treeOf vs 0 .nil with
  | none => rw [hc] at h; cases h
  | some c =>
    rw [hc] at h
    simp only [] at h
    cases hk : st.cls.set st.next [st.next] with
    | none => rw [hk] at h; cases h
    | some k =>
      cases hp : st.push (.cells vs.length c sz el op false st.next) with
      | none => rw [hk, hp] at h; cases h
      | some x =>
        obtain ⟨b', s⟩ := x
        rw [hk, hp] at h
        simp only [Option.some.injEq, Prod.mk.injEq] at h
        obtain ⟨rfl, rfl⟩ := h
        obtain ⟨e1, e2, e3, e4⟩ := St.push_spec hp
        exact ⟨c, rfl, e1, e2, fun m => Tr.get_set hk m, e4⟩

/-- A new row: at least as long as is known. -/
theorem HR.row {μ : Ren} {st st' : St} {h : Array Obj} {base : Nat} {vs : List Value} {sz el b : Nat} {op : Bool} {c' : Array Value} {el' : TypeId} (hr : HR μ st h base)
    (hp : st.row vs sz el op = some (b, st')) (hlen : vs.length ≤ c'.size) (hel : el' = el) (hop : op = false → c'.size = vs.length ∧ el' = el)
    (hv : ∀ (i : Nat) (v : Value), vs[i]? = some v → ∃ v', c'[i]? = some v' ∧ VR μ v v') {fz : Nat × Nat} (hfz : fz.1 = fz.2 ∨ c'.size ≤ fz.1) :
    HR (upd μ st.next ⟨h.size, 0, c'.size, sz⟩) st' (h.push (.cells c' el' fz)) base ∧ b = st.next := by
  obtain ⟨c, hc, hb, hn, hk, hh⟩ := St.row_spec hp
  refine ⟨?_, hb⟩
  have hsub : Sub μ (upd μ st.next ⟨h.size, 0, c'.size, sz⟩) := sub_upd _ (hr.fresh _ (Nat.le_refl _))
  refine hr.more (L := ⟨h.size, 0, c'.size, sz⟩) hn hh (.inr ⟨rfl, hk⟩) rfl ?_
  refine ⟨by simp, hlen, fun e => ⟨(hop e).1, rfl, (hop e).2⟩, ⟨rfl, hel⟩, fun i hi v hv' => ?_, fun _ => hfz⟩
  rw [treeOf_get hc hi] at hv'
  obtain ⟨v', a, r⟩ := hv i v hv'
  exact ⟨v', by simpa using a, r.mono hsub⟩

theorem Ex.row {μ : Ren} {st st' : St} {w w' : World} {base : Nat} {vs : List Value} {sz el b : Nat} {op : Bool} {L : Loc} {o' : Obj} (hr : HR μ st w.heap base)
    (hp : st.row vs sz el op = some (b, st')) (hw : w'.heap = w.heap.push o') (hos : w'.os = w.os) (hout : w'.output = w.output) : Ex μ st w (upd μ st.next L) st' w' base := by
  obtain ⟨c, hc, hb, hn, hk, hh⟩ := St.row_spec hp
  exact Ex.more hr hn hh hw hos hout

/-! ### Reading -/
theorem add_none (b o i : Nat) : (⟨b, o, none⟩ : Addr).add i = ⟨b, o + i, none⟩ := by
  unfold Addr.add
  split
  · rename_i h; subst h; rfl
  · rfl

theorem St.load_sound {μ : Ren} {st : St} {w : World} {base b o : Nat} {v : Value} {L : Loc} (hr : HR μ st w.heap base) (h : st.load ⟨b, o, none⟩ = some v) (hb : μ b = some L) :
    ∃ v', w.cell? ⟨L.blk, L.off + o, none⟩ = some v' ∧ VR μ v v' := by
  unfold St.load at h
  simp only [] at h
  cases hg : st.heap.get b with
  | none => rw [hg] at h; cases h
  | some x =>
    rw [hg] at h
    cases x with
    | cells n c sz el op fz k =>
      simp only [] at h
      cases hlt : Nat.blt o n with
      | false => rw [hlt] at h; cases h
      | true =>
        rw [hlt] at h
        simp only [cond_true] at h
        have hlt' : o < n := by simpa [Nat.blt_eq] using hlt
        obtain ⟨o', e, r⟩ := hr.obj b L _ hb hg
        cases o' with
        | cells c' el' fz' =>
          obtain ⟨v', a, q⟩ := r.2.2.2.2.1 o hlt' v h
          exact ⟨v', by simp [World.cell?, e, a], q⟩
        | _ => exact r.elim
    | _ => cases h

theorem St.loads_sound {μ : Ren} {st : St} {w : World} {base b o : Nat} {L : Loc} (hr : HR μ st w.heap base) (hb : μ b = some L) :
    ∀ (n i : Nat) (l : List Value), st.loads ⟨b, o, none⟩ n i = some l → ∃ l', l'.length = n ∧ (∀ j v, l'[j]? = some v → w.cell? ⟨L.blk, L.off + o + i + j, none⟩ = some v) ∧ VRL μ l l' := by
  intro n
  induction n with
  | zero => intro i l h; simp [St.loads] at h; subst h; exact ⟨[], rfl, by simp, .nil⟩
  | succ n ih =>
    intro i l h
    simp only [St.loads] at h
    cases h1 : st.load (at_ ⟨b, o, none⟩ i) with
    | none => rw [h1] at h; cases h
    | some v =>
      cases h2 : st.loads ⟨b, o, none⟩ n (Nat.add i 1) with
      | none => rw [h1, h2] at h; cases h
      | some r =>
        rw [h1, h2] at h
        simp only [Option.some.injEq] at h
        subst h
        obtain ⟨v', hc, hv⟩ := St.load_sound hr h1 hb
        obtain ⟨l', hlen, hcs, hl⟩ := ih (i + 1) r h2
        refine ⟨v' :: l', by simp [hlen], ?_, .cons hv hl⟩
        intro j u hj
        cases j with
        | zero => simp at hj; subst hj; have : L.off + (o + i) = L.off + o + i + 0 := by omega
                  rw [← this]; exact hc
        | succ j =>
          have := hcs j u (by simpa using hj)
          have e : L.off + o + (i + 1) + j = L.off + o + i + (j + 1) := by omega
          rw [← e]; exact this

end Go.Det
