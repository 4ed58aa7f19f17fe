/- The interpreter once more, in a form in which the kernel goes with fewer steps: the same outcomes. -/
import Derived.Test.YtofiafmbiedjnaaGreatDoorDetEnv
set_option autoImplicit false
namespace Go.Det
noncomputable section

/-! ## Ways in a tree: a number's way is reckoned once -/
inductive Path where
  | here
  | left (p : Path)
  | right (p : Path)

def pathF : Nat → Nat → Path
  | 0, _ => .here
  | f + 1, n => match n with
    | 0 => .here
    | m + 1 => match Nat.beq (Nat.mod m 2) 0 with
      | true => .left (pathF f (Nat.div m 2))
      | false => .right (pathF f (Nat.div m 2))

def pathOf (n : Nat) : Path := pathF (Nat.add n 1) n

def numOf : Path → Nat
  | .here => 0
  | .left p => 2 * numOf p + 1
  | .right p => 2 * numOf p + 2

def getP {α : Type} (p : Path) : Tr α → Option α :=
  Path.rec (motive := fun _ => Tr α → Option α) (fun t => Tr.rec (motive := fun _ => Option α) none (fun v _ _ _ _ => v) t)
    (fun _ ih t => Tr.rec (motive := fun _ => Option α) none (fun _ l _ _ _ => ih l) t) (fun _ ih t => Tr.rec (motive := fun _ => Option α) none (fun _ _ r _ _ => ih r) t) p

def setP {α : Type} (p : Path) : Tr α → α → Tr α :=
  Path.rec (motive := fun _ => Tr α → α → Tr α) (fun t a => Tr.rec (motive := fun _ => Tr α) (.node (some a) .nil .nil) (fun _ l r _ _ => .node (some a) l r) t)
    (fun _ ih t a => Tr.rec (motive := fun _ => Tr α) (.node none (ih .nil a) .nil) (fun v l r _ _ => .node v (ih l a) r) t)
    (fun _ ih t a => Tr.rec (motive := fun _ => Tr α) (.node none .nil (ih .nil a)) (fun v l r _ _ => .node v l (ih r a)) t) p

theorem pathF_succ (f m : Nat) : pathF (f + 1) (m + 1) = if m % 2 = 0 then .left (pathF f (m / 2)) else .right (pathF f (m / 2)) := by
  show (match Nat.beq (Nat.mod m 2) 0 with | true => Path.left (pathF f (Nat.div m 2)) | false => .right (pathF f (Nat.div m 2))) = _
  rw [even_beq]
  by_cases h : m % 2 = 0 <;> simp only [h, decide_true, decide_false, if_true, if_false] <;> rfl

theorem getP_nil {α : Type} (p : Path) : getP p (.nil : Tr α) = none := by cases p <;> rfl

theorem getP_path {α : Type} : ∀ (f n : Nat) (t : Tr α), n + 1 < 2 ^ f → getP (pathF f n) t = t.get n := by
  intro f
  induction f with
  | zero => intro n t h; simp at h
  | succ f ih =>
    intro n t h
    cases t with
    | nil => rw [getP_nil]; rfl
    | node v l r =>
      cases n with
      | zero => rfl
      | succ n =>
        have hp : (2 : Nat) ^ (f + 1) = 2 * 2 ^ f := by rw [Nat.pow_succ]; omega
        have hn : n / 2 + 1 < 2 ^ f := by omega
        rw [pathF_succ, Tr.get_succ]
        by_cases h2 : n % 2 = 0
        · rw [if_pos h2, if_pos h2]; exact ih _ _ hn
        · rw [if_neg h2, if_neg h2]; exact ih _ _ hn

theorem pow_big (n : Nat) : n + 1 < 2 ^ (n + 1) := by
  induction n with
  | zero => decide
  | succ n ih => rw [Nat.pow_succ]; omega

theorem getP_of {α : Type} (n : Nat) (t : Tr α) : getP (pathOf n) t = t.get n := getP_path _ _ _ (pow_big n)

theorem numOf_path : ∀ (f n : Nat), n + 1 < 2 ^ f → numOf (pathF f n) = n := by
  intro f
  induction f with
  | zero => intro n h; simp at h
  | succ f ih =>
    intro n h
    cases n with
    | zero => rfl
    | succ n =>
      have hp : (2 : Nat) ^ (f + 1) = 2 * 2 ^ f := by rw [Nat.pow_succ]; omega
      have hn : n / 2 + 1 < 2 ^ f := by omega
      rw [pathF_succ]
      by_cases h2 : n % 2 = 0
      · rw [if_pos h2]; simp only [numOf, ih _ hn]; omega
      · rw [if_neg h2]; simp only [numOf, ih _ hn]; omega

theorem numOf_of (n : Nat) : numOf (pathOf n) = n := numOf_path _ _ (pow_big n)

theorem setP_nil {α : Type} : ∀ (f g n : Nat) (a : α), n + 1 < 2 ^ f → n + 1 < 2 ^ g → setP (pathF f n) .nil a = Tr.only g n a := by
  intro f
  induction f with
  | zero => intro g n a h; simp at h
  | succ f ih =>
    intro g n a h hg
    cases g with
    | zero => simp at hg
    | succ g =>
      cases n with
      | zero => rfl
      | succ n =>
        have hp : ∀ k : Nat, (2 : Nat) ^ (k + 1) = 2 * 2 ^ k := by intro k; rw [Nat.pow_succ]; omega
        have hn : n / 2 + 1 < 2 ^ f := by have := hp f; omega
        have hm : n / 2 + 1 < 2 ^ g := by have := hp g; omega
        rw [pathF_succ, Tr.only_succ]
        by_cases h2 : n % 2 = 0
        · rw [if_pos h2, if_pos h2, ← ih g _ a hn hm]; rfl
        · rw [if_neg h2, if_neg h2, ← ih g _ a hn hm]; rfl

theorem setP_path {α : Type} : ∀ (t : Tr α) (f n : Nat) (a : α), n + 1 < 2 ^ f → n + 1 < 2 ^ 24 → setP (pathF f n) t a = t.setF n a := by
  intro t
  induction t with
  | nil => intro f n a h hl; exact setP_nil f 24 n a h hl
  | node v l r ihl ihr =>
    intro f n a h hl
    cases f with
    | zero => simp at h
    | succ f =>
      cases n with
      | zero => rfl
      | succ n =>
        have hp : (2 : Nat) ^ (f + 1) = 2 * 2 ^ f := by rw [Nat.pow_succ]; omega
        have hn : n / 2 + 1 < 2 ^ f := by omega
        rw [pathF_succ, Tr.setF_succ]
        by_cases h2 : n % 2 = 0
        · rw [if_pos h2, if_pos h2, ← ihl f _ a hn (by omega)]; rfl
        · rw [if_neg h2, if_neg h2, ← ihr f _ a hn (by omega)]; rfl

theorem setP_of {α : Type} (n : Nat) (t : Tr α) (a : α) (h : n < lim) : setP (pathOf n) t a = t.setF n a := by
  refine setP_path t _ n a (pow_big n) ?_
  unfold lim at h
  have e : (2 : Nat) ^ 24 = 16777216 := by decide
  omega

def lookP (t : Tr Value) (p : Path) : Value := Option.rec (motive := fun _ => Value) undefV (fun v => v) (getP p t)

theorem lookP_of (t : Tr Value) (n : Nat) : lookP t (pathOf n) = look t n := by
  unfold lookP look
  rw [getP_of]
  cases t.get n <;> rfl

abbrev Way := Path → Value

/-- The same, by numbers. -/
def byN (ρ : Way) (n : Nat) : Value := ρ (pathOf n)
def byP (ρ : Nat → Value) : Way := fun p => ρ (numOf p)

theorem byN_look (t : Tr Value) : byN (lookP t) = look t := by funext n; exact lookP_of t n
theorem byN_byP (ρ : Nat → Value) : byN (byP ρ) = ρ := by funext n; unfold byN byP; rw [numOf_of]

/-! ## Operands, results -/
structure OpdD where
  f : Way → Option Value

def opdOf : Operand → OpdD
  | .tmp t => ⟨fun ρ => some (ρ (pathOf t))⟩
  | .const v => match plainV v with
    | true => ⟨fun _ => some v⟩
    | false => ⟨fun _ => none⟩
  | .global _ => ⟨fun _ => none⟩
  | .func f => ⟨fun _ => some (.func (.func f) #[] #[])⟩

theorem opdOf_eq (x : Operand) (ρ : Way) : (opdOf x).f ρ = opd (byN ρ) x := by
  cases x with
  | const v => simp only [opdOf, opd]; cases plainV v <;> rfl
  | _ => rfl

def opdsF (ρ : Way) : List Operand → Option (List Value)
  | [] => some []
  | o :: r => match (opdOf o).f ρ with
    | some v => match opdsF ρ r with
      | some l => some (v :: l)
      | none => none
    | none => none

theorem opdsF_eq (ρ : Way) : ∀ l : List Operand, opdsF ρ l = opds (byN ρ) l
  | [] => rfl
  | o :: r => by
    unfold opdsF opds
    rw [opdOf_eq, opdsF_eq ρ r]
    cases opd (byN ρ) o with
    | none => rfl
    | some v => cases opds (byN ρ) r <;> rfl

structure PutD where
  f : Tr Value → Value → Option (Tr Value)

def putOf (nt : Nat) (dst : Option Tmp) : PutD :=
  match dst with
  | none => ⟨fun t _ => some t⟩
  | some d => match Nat.blt d nt with
    | true => match Nat.blt d lim with
      | true => ⟨fun t v => some (setP (pathOf d) t v)⟩
      | false => ⟨fun _ _ => none⟩
    | false => ⟨fun _ _ => none⟩

theorem putOf_eq (nt : Nat) (dst : Option Tmp) (t : Tr Value) (v : Value) : (putOf nt dst).f t v = put nt t dst v := by
  cases dst with
  | none => rfl
  | some d =>
    simp only [putOf, put, Tr.set]
    cases Nat.blt d nt with
    | false => rfl
    | true =>
      cases h : Nat.blt d lim with
      | false => rfl
      | true =>
        simp only [cond_true]
        rw [setP_of d t v (by simpa [Nat.blt_eq] using h)]

/-! ## Integers -/
def asInt (v : Value) : Option (IntKind × Int) :=
  match v with
  | .int k n => some (k, n)
  | _ => none

def kNat : IntKind → Nat
  | .i8 => 0 | .i16 => 1 | .i32 => 2 | .i64 => 3 | .u8 => 4 | .u16 => 5 | .u32 => 6 | .u64 => 7

theorem kNat_inj {j k : IntKind} (h : Nat.beq (kNat j) (kNat k) = true) : j = k := by
  cases j <;> cases k <;> first | rfl | cases h

theorem kNat_beq (j k : IntKind) : Nat.beq (kNat j) (kNat k) = decide (j = k) := by
  cases j <;> cases k <;> rfl

/-- Numbers that each kind has. -/
def fits : IntKind → Nat
  | .i8 => 128 | .i16 => 32768 | .i32 => 2147483648 | .i64 => 9223372036854775808 | .u8 => 256 | .u16 => 65536 | .u32 => 4294967296 | .u64 => 18446744073709551616

theorem wrap_fits {k : IntKind} {n : Nat} (h : n < fits k) : k.wrap (n : Int) = n := by
  cases k <;> simp only [fits] at h <;> simp only [IntKind.wrap, IntKind.bits, IntKind.signed] <;> simp <;> omega

def addF (k : IntKind) (a b : Int) : Value :=
  match a, b with
  | .ofNat m, .ofNat n => match Nat.blt (Nat.add m n) (fits k) with
    | true => .int k (.ofNat (Nat.add m n))
    | false => .int k (k.wrap (.ofNat m + .ofNat n))
  | a, b => .int k (k.wrap (a + b))

theorem addF_eq (k : IntKind) (a b : Int) : addF k a b = .int k (k.wrap (a + b)) := by
  unfold addF
  split
  · rename_i m n
    cases h : Nat.blt (Nat.add m n) (fits k) with
    | false => rfl
    | true =>
      have h : m + n < fits k := by simpa [Nat.blt_eq] using h
      have := wrap_fits h
      simp only []
      show Value.int k ((m + n : Nat) : Int) = _
      rw [← this]
      congr 2
  · rfl

def lssF (a b : Int) : Bool :=
  match a, b with
  | .ofNat m, .ofNat n => Nat.blt m n
  | a, b => decide (a < b)

theorem lssF_eq (a b : Int) : lssF a b = decide (a < b) := by
  unfold lssF
  split
  · rename_i m n
    rw [Bool.eq_iff_iff, Nat.blt_eq, decide_eq_true_eq]
    show m < n ↔ (m : Int) < (n : Int)
    omega
  · rfl

def eqlF (a b : Int) : Bool :=
  match a, b with
  | .ofNat m, .ofNat n => Nat.beq m n
  | a, b => a == b

theorem eqlF_eq (a b : Int) : eqlF a b = (a == b) := by
  unfold eqlF
  split
  · rename_i m n
    rw [Bool.eq_iff_iff, Nat.beq_eq, beq_iff_eq]
    show m = n ↔ (m : Int) = (n : Int)
    omega
  · rfl

structure IntD where
  f : IntKind → Int → Int → Option Value

def intOf2 (op : BinOp) : IntD :=
  match op with
  | .add => ⟨fun k a b => some (addF k a b)⟩
  | .eql => ⟨fun _ a b => some (.bool (eqlF a b))⟩
  | .neq => ⟨fun _ a b => some (.bool (!eqlF a b))⟩
  | .lss => ⟨fun _ a b => some (.bool (lssF a b))⟩
  | .geq => ⟨fun _ a b => some (.bool (!lssF a b))⟩
  | .gtr => ⟨fun _ a b => some (.bool (lssF b a))⟩
  | .leq => ⟨fun _ a b => some (.bool (!lssF b a))⟩
  | op => ⟨fun k a b => intOp op k a b⟩

theorem intOf2_eq (op : BinOp) (k : IntKind) (a b : Int) : (intOf2 op).f k a b = intOp op k a b := by
  have h1 : ∀ a b : Int, (!decide (a < b)) = decide (b ≤ a) := by intro a b; rw [Bool.eq_iff_iff]; simp
  cases op <;> simp only [intOf2, intOp, addF_eq, eqlF_eq, lssF_eq, h1] <;> rfl

def isShift : BinOp → Bool
  | .shl => true
  | .shr => true
  | _ => false

structure BinD where
  f : Value → Value → Option Value

def binOf (E : Env) (op : BinOp) (t : TypeId) (c : Bool) : BinD :=
  match isShift op with
  | true => ⟨fun a b => binOpC E op t a b c⟩
  | false => ⟨fun a b => match asInt a with
    | some x => match asInt b with
      | some y => match Nat.beq (kNat x.1) (kNat y.1) with
        | true => (intOf2 op).f x.1 x.2 y.2
        | false => none
      | none => binOpC E op t a b c
    | none => binOpC E op t a b c⟩

theorem binOpC_int (E : Env) (op : BinOp) (t : TypeId) (k j : IntKind) (a b : Int) (c : Bool) : binOpC E op t (.int k a) (.int j b) c = binOpA E op t (.int k a) (.int j b) c := by
  cases j <;> rfl

theorem binOf_eq (E : Env) (op : BinOp) (t : TypeId) (c : Bool) (a b : Value) : (binOf E op t c).f a b = binOpC E op t a b c := by
  unfold binOf
  cases hs : isShift op with
  | true => rfl
  | false =>
    simp only []
    cases a with
    | int k x =>
      cases b with
      | int j y =>
        rw [binOpC_int]
        simp only [asInt]
        have hA : binOpA E op t (.int k x) (.int j y) c = if k = j then intOp op k x y else none := by
          cases op <;> first | rfl | cases hs
        rw [hA, kNat_beq]
        by_cases e : k = j
        · simp only [e, decide_true, if_true]; exact intOf2_eq op j x y
        · simp only [e, decide_false, if_false]
      | _ => rfl
    | _ => rfl

/-! ## Memory -/
structure LoadD where
  f : St → Addr → Option Value

def cellsFrom (c : Tr Value) (n : Nat) : Nat → Nat → Option (List Value)
  | 0, _ => some []
  | k + 1, i => match Nat.blt i n with
    | true => match c.get i with
      | some v => match cellsFrom c n k (Nat.add i 1) with
        | some l => some (v :: l)
        | none => none
      | none => none
    | false => none

theorem cellsFrom_succ (c : Tr Value) (n k i : Nat) : cellsFrom c n (k + 1) i = match Nat.blt i n with
    | true => match c.get i with
      | some v => match cellsFrom c n k (Nat.add i 1) with
        | some l => some (v :: l)
        | none => none
      | none => none
    | false => none := rfl

def cellsAt (o : Option AObj) : Option (Nat × Tr Value) :=
  match o with
  | some o => match o with
    | .cells n c _ _ _ _ _ => some (n, c)
    | _ => none
  | none => none

def spotless (o : Option String) : Bool := o.isNone

def loadsF (st : St) (a : Addr) (k : Nat) : Option (List Value) :=
  match k with
  | 0 => some []
  | k' + 1 => match a.spot with
    | none => match cellsAt (st.heap.get a.block) with
      | some x => cellsFrom x.2 x.1 k a.off
      | none => none
    | some _ => none

theorem load_cells (st : St) (a : Addr) : st.load a = match a.spot with
    | none => match cellsAt (st.heap.get a.block) with
      | some x => cond (Nat.blt a.off x.1) (x.2.get a.off) none
      | none => none
    | some _ => none := by
  unfold St.load
  cases hs : a.spot with
  | some x => cases st.heap.get a.block with
    | none => rfl
    | some o => cases o <;> rfl
  | none => cases st.heap.get a.block with
    | none => rfl
    | some o => cases o <;> rfl

theorem loads_cells (st : St) (a : Addr) : ∀ (k i : Nat), st.loads a k i = match k with
    | 0 => some []
    | k' + 1 => match a.spot with
      | none => match cellsAt (st.heap.get a.block) with
        | some x => cellsFrom x.2 x.1 (k' + 1) (Nat.add a.off i)
        | none => none
      | some _ => none := by
  intro k
  induction k with
  | zero => intro i; rfl
  | succ k ih =>
    intro i
    have e : Nat.add a.off (Nat.add i 1) = Nat.add (Nat.add a.off i) 1 := by
      show a.off + (i + 1) = a.off + i + 1
      omega
    have e1 : (at_ a i).spot = none := rfl
    have e2 : (at_ a i).block = a.block := rfl
    have e3 : (at_ a i).off = Nat.add a.off i := rfl
    unfold St.loads
    rw [ih, load_cells, e1, e2, e3]
    cases hs : a.spot with
    | some x => rfl
    | none =>
      simp only []
      cases hc : cellsAt (st.heap.get a.block) with
      | none => rfl
      | some x =>
        simp only []
        show _ = cellsFrom x.2 x.1 (k + 1) (Nat.add a.off i)
        rw [cellsFrom_succ x.2 x.1 k (Nat.add a.off i)]
        cases Nat.blt (Nat.add a.off i) x.1 with
        | false => rfl
        | true =>
          simp only [cond_true]
          cases x.2.get (Nat.add a.off i) with
          | none => rfl
          | some v =>
            simp only []
            cases k with
            | zero => rfl
            | succ k =>
              simp only []
              rw [e]
              generalize cellsFrom x.2 x.1 (k + 1) (Nat.add (Nat.add a.off i) 1) = r
              cases r <;> rfl

theorem loadsF_eq (st : St) (a : Addr) (k : Nat) : loadsF st a k = st.loads a k 0 := by
  rw [loads_cells]
  cases k with
  | zero => rfl
  | succ k => rfl

def loadOf (E : Env) (t : TypeId) : LoadD :=
  match E.ti.get t with
  | some i => match isAggTy i.und with
    | true => ⟨fun st a => match loadsF st a i.size with | some l => some (.agg ⟨l⟩) | none => none⟩
    | false => ⟨fun st a => st.load a⟩
  | none => ⟨fun _ _ => none⟩

theorem loadOf_eq (E : Env) (t : TypeId) (st : St) (a : Addr) : (loadOf E t).f st a = st.loadVar E t a := by
  unfold loadOf St.loadVar
  cases E.ti.get t with
  | none => rfl
  | some i =>
    simp only []
    cases isAggTy i.und with
    | false => rfl
    | true => simp only [loadsF_eq, cond_true]; rfl

def killSlow (st : St) (b cls : Nat) : Option St := st.kill b cls

def killF (st : St) (b cls : Nat) : Option St :=
  match st.cls.get cls with
  | some l => match l with
    | [] => killSlow st b cls
    | x :: r => match r with
      | [] => match Nat.beq x b with
        | true => some st
        | false => none
      | _ :: _ => killSlow st b cls
  | none => none

theorem killF_eq (st : St) (b cls : Nat) : killF st b cls = st.kill b cls := by
  unfold killF killSlow
  cases h : st.cls.get cls with
  | none => simp only [St.kill, h]
  | some l =>
    cases l with
    | nil => rfl
    | cons x r =>
      cases r with
      | cons y r => rfl
      | nil =>
        simp only [St.kill, h]
        cases Nat.beq x b <;> rfl

def storesSlow (st : St) (a : Addr) (vs : List Value) : Option St := st.stores a vs

/-- One flat cell is written. -/
def store1 (st : St) (a : Addr) (v : Value) : Option St :=
  match a.spot with
  | some _ => none
  | none => match st.heap.get a.block with
    | none => none
    | some o => match o with
      | .cells n c sz el op frz cls => match frz with
        | true => none
        | false => match flat v with
          | false => none
          | true => match Nat.blt a.off n with
            | false => none
            | true => match c.set a.off v with
              | none => none
              | some c' => match killF st a.block cls with
                | none => none
                | some st' => match st'.heap.set a.block (.cells n c' sz el op false cls) with
                  | some h => some { st' with heap := h }
                  | none => none
      | _ => none

theorem store1_eq (st : St) (a : Addr) (v : Value) : store1 st a v = st.stores a [v] := by
  unfold store1 St.stores
  simp only [killF_eq]
  cases a.spot with
  | some x => cases st.heap.get a.block with
    | none => rfl
    | some o => cases o <;> rfl
  | none => cases st.heap.get a.block with
    | none => rfl
    | some o => cases o with
      | cells n c sz el op frz cls =>
        cases frz with
        | true => rfl
        | false =>
          simp only [storeTree]
          cases flat v with
          | false => rfl
          | true => cases Nat.blt a.off n with
            | false => rfl
            | true =>
              simp only [Bool.and_true, cond_true]
              cases c.set a.off v with
              | none => rfl
              | some c' =>
                simp only []
                cases st.kill a.block cls <;> rfl
      | _ => rfl

def storesF (st : St) (a : Addr) (vs : List Value) : Option St :=
  match vs with
  | [] => some st
  | v :: r => match r with
    | [] => store1 st a v
    | _ :: _ => storesSlow st a vs

theorem storesF_eq (st : St) (a : Addr) (vs : List Value) : storesF st a vs = st.stores a vs := by
  cases vs with
  | nil => rfl
  | cons v r => cases r with
    | nil => exact store1_eq st a v
    | cons x r => rfl

structure StoreD where
  f : St → Addr → Value → Option St

def storeOf (E : Env) (t : TypeId) : StoreD :=
  match E.ti.get t with
  | some i => ⟨fun st a v => match Nat.beq (cellsOf v).length i.size with
    | true => storesF st a (cellsOf v)
    | false => none⟩
  | none => ⟨fun _ _ _ => none⟩

theorem storeOf_eq (E : Env) (t : TypeId) (st : St) (a : Addr) (v : Value) : (storeOf E t).f st a v = st.storeVar E t a v := by
  unfold storeOf St.storeVar
  cases E.ti.get t with
  | none => rfl
  | some i =>
    simp only [storesF_eq]
    cases Nat.beq (cellsOf v).length i.size <;> rfl

structure ValD where
  f : Value → Option Value

def asPtr (v : Value) : Option Addr :=
  match v with
  | .pointer (some a) => some a
  | _ => none

def fieldAddrOf (E : Env) (t : TypeId) (f : Nat) : ValD :=
  match E.ti.get t with
  | some i => match i.und with
    | .struct fs => match fs[f]? with
      | some fd => match E.ti.get fd.type with
        | some fi => match fi.size with
          | 0 => ⟨fun _ => none⟩
          | _ + 1 => ⟨fun x => match asPtr x with | some a => some (.pointer (some (at_ a fd.offset))) | none => none⟩
        | none => ⟨fun _ => none⟩
      | none => ⟨fun _ => none⟩
    | _ => ⟨fun _ => none⟩
  | none => ⟨fun _ => none⟩

theorem fieldAddrA_none {E : Env} {t : TypeId} {x : Value} {f : Nat} (h : asPtr x = none) : fieldAddrA E t x f = none := by
  unfold fieldAddrA
  split
  · cases h
  · rfl

theorem fieldAddrOf_eq (E : Env) (t : TypeId) (x : Value) (f : Nat) : (fieldAddrOf E t f).f x = fieldAddrA E t x f := by
  have hx : (∃ a, x = .pointer (some a)) ∨ asPtr x = none := by
    unfold asPtr
    split
    · exact .inl ⟨_, rfl⟩
    · exact .inr rfl
  rcases hx with ⟨a, rfl⟩ | hx
  · unfold fieldAddrOf fieldAddrA
    cases E.ti.get t with
    | none => rfl
    | some i =>
      simp only []
      cases i.und with
      | struct fs =>
        simp only []
        cases fs[f]? with
        | none => rfl
        | some fd =>
          simp only []
          cases E.ti.get fd.type with
          | none => rfl
          | some fi =>
            simp only []
            cases fi.size <;> rfl
      | _ => rfl
  · rw [fieldAddrA_none hx]
    unfold fieldAddrOf
    cases E.ti.get t with
    | none => rfl
    | some i =>
      simp only []
      cases i.und with
      | struct fs =>
        simp only []
        cases fs[f]? with
        | none => rfl
        | some fd =>
          simp only []
          cases E.ti.get fd.type with
          | none => rfl
          | some fi =>
            simp only []
            cases fi.size with
            | zero => rfl
            | succ n => simp only [hx]
      | _ => rfl

/-! ## One operation -/
structure BiD where
  f : St → Array TypeId → List Value → Option (Value × St)

def biOf (E : Env) (b : Builtin) : BiD :=
  match b with
  | .append => ⟨fun st ts args => match appendA E st ts args with
    | some r => some r
    | none => appendZ E st ts args⟩
  | .len => ⟨fun st ts args => (lenOp E st ts args).map fun v => (v, st)⟩
  | .copy => ⟨fun st ts args => copyA E st ts args⟩
  | .clear => ⟨fun st ts args => clearA E st ts args⟩
  | .delete => ⟨fun st ts args => deleteA E st ts args⟩
  | .max => ⟨fun st _ args => (foldMM true args).map fun v => (v, st)⟩
  | .min => ⟨fun st _ args => (foldMM false args).map fun v => (v, st)⟩
  | b => ⟨fun st ts args => builtinA E st b ts args⟩

theorem biOf_eq (E : Env) (b : Builtin) (st : St) (ts : Array TypeId) (args : List Value) : (biOf E b).f st ts args = builtinA E st b ts args := by
  cases b <;> rfl

structure Exe where
  /-- 0: neither calls nor parts; 1: a call; 2: an iterator's next -/
  kind : Nat
  run : Way → St → Option (ORes × St)

def fPick (x a b : Option Value) (st : St) : Option (ORes × St) :=
  match x with
  | some x => match x with
    | .bool t => match a with
      | some a => match b with
        | some b => some (.val (Bool.rec (motive := fun _ => Value) b a t), st)
        | none => none
      | none => none
    | _ => none
  | none => none

/-- A value, memory as it was. -/
def oneF (st : St) (v : Option Value) : Option (ORes × St) := Option.rec (motive := fun _ => Option (ORes × St)) none (fun v => some (.val v, st)) v

theorem oneF_eq (st : St) (v : Option Value) : oneF st v = one st v := by cases v <;> rfl

def fVal (f : Value → Option Value) (x : Option Value) (st : St) : Option (ORes × St) := Option.rec (motive := fun _ => Option (ORes × St)) none (fun v => oneF st (f v)) x

def fPtr (f : Addr → Option (ORes × St)) (x : Option Value) : Option (ORes × St) :=
  Option.rec (motive := fun _ => Option (ORes × St)) none (fun v => Option.rec (motive := fun _ => Option (ORes × St)) none f (asPtr v)) x

def f2 (f : Value → Value → Option (ORes × St)) (x y : Option Value) : Option (ORes × St) :=
  Option.rec (motive := fun _ => Option (ORes × St)) none (fun x => Option.rec (motive := fun _ => Option (ORes × St)) none (fun y => f x y) y) x

def dGen (E : Env) (op : Op) : Exe := ⟨0, fun ρ st => execA E (byN ρ) st op⟩
def dMove (x : Operand) : Exe := ⟨0, fun ρ st => oneF st ((opdOf x).f ρ)⟩
def dPick (c a b : Operand) : Exe := ⟨0, fun ρ st => fPick ((opdOf c).f ρ) ((opdOf a).f ρ) ((opdOf b).f ρ) st⟩
def dAlloc (E : Env) (t : TypeId) : Exe := ⟨0, fun _ st => two (allocA E st t)⟩
def dBox (E : Env) (t : TypeId) (x : Operand) : Exe := ⟨0, fun ρ st => match (opdOf x).f ρ with
    | some v => two (boxA E st t v)
    | none => none⟩
def dBuild (E : Env) (t : TypeId) (ps : Array (Nat × Operand)) : Exe := ⟨0, fun ρ st => match partsV (byN ρ) ps.toList with
    | some l => one st (buildA E t l)
    | none => none⟩
def dBuildSlice (E : Env) (t : TypeId) (len : Nat) (ps : Array (Nat × Operand)) : Exe := ⟨0, fun ρ st => match partsV (byN ρ) ps.toList with
    | some l => two (buildSliceA E st t len l)
    | none => none⟩
def dInsert (E : Env) (t : TypeId) (m k v : Operand) : Exe := ⟨0, fun ρ st => match (opdOf m).f ρ with
  | some m => f2 (fun k v => unit (mapSetA E st t m k v)) ((opdOf k).f ρ) ((opdOf v).f ρ)
  | none => none⟩
def dLoad (E : Env) (t : TypeId) (a : Operand) : Exe := ⟨0, fun ρ st => fPtr (fun a => oneF st ((loadOf E t).f st a)) ((opdOf a).f ρ)⟩
def dStore (E : Env) (t : TypeId) (a x : Operand) : Exe := ⟨0, fun ρ st => fPtr (fun a => match (opdOf x).f ρ with
    | some v => unit ((storeOf E t).f st a v)
    | none => none) ((opdOf a).f ρ)⟩
def dNil (x : Operand) : Exe := ⟨0, fun ρ st => match (opdOf x).f ρ with
    | some (.pointer (some a)) => some (.val (.pointer (some a)), st)
    | some (.func (.func f) a b) => some (.val (.func (.func f) a b), st)
    | some (.func (.yield f) a b) => some (.val (.func (.yield f) a b), st)
    | _ => none⟩
def dBin (E : Env) (op : BinOp) (t : TypeId) (x y : Operand) (_ : TypeId) : Exe := ⟨0, fun ρ st => f2 (fun a b => oneF st ((binOf E op t (isConst x || isConst y)).f a b)) ((opdOf x).f ρ) ((opdOf y).f ρ)⟩
def dUn (op : UnOp) (_ : TypeId) (x : Operand) : Exe := ⟨0, fun ρ st => fVal (unA op) ((opdOf x).f ρ) st⟩
def dConvert (E : Env) (s d : TypeId) (x : Operand) : Exe := ⟨0, fun ρ st => match (opdOf x).f ρ with
    | some v => two (convertA E st s d v)
    | none => none⟩
def dSlice (E : Env) (t : TypeId) (x : Operand) (lo hi mx : Option Operand) : Exe := ⟨0, fun ρ st => match (opdOf x).f ρ, opt (byN ρ) lo, opt (byN ρ) hi, opt (byN ρ) mx with
    | some x, some lo, some hi, some mx => one st (sliceA E st t x lo hi mx)
    | _, _, _, _ => none⟩
def dFieldAddr (E : Env) (t : TypeId) (x : Operand) (f : Nat) : Exe := ⟨0, fun ρ st => fVal (fieldAddrOf E t f).f ((opdOf x).f ρ) st⟩
def dField (E : Env) (t : TypeId) (x : Operand) (f : Nat) : Exe := ⟨0, fun ρ st => fVal (fun v => fieldA E t v f) ((opdOf x).f ρ) st⟩
def dIndexAddr (E : Env) (t : TypeId) (x i : Operand) : Exe := ⟨0, fun ρ st => f2 (fun x i => oneF st (indexAddrA E t x i)) ((opdOf x).f ρ) ((opdOf i).f ρ)⟩
def dIndex (E : Env) (t : TypeId) (x i : Operand) : Exe := ⟨0, fun ρ st => f2 (fun x i => oneF st (indexA E t x i)) ((opdOf x).f ρ) ((opdOf i).f ρ)⟩
def dLookup (E : Env) (t : TypeId) (x i : Operand) (ok : Bool) : Exe := ⟨0, fun ρ st => f2 (fun x i => oneF st (lookupA E st t x i ok)) ((opdOf x).f ρ) ((opdOf i).f ρ)⟩
def dRange (E : Env) (t : TypeId) (x : Operand) : Exe := ⟨0, fun ρ st => match (opdOf x).f ρ with | some x => two (rangeA E st t x) | none => none⟩
def asTuple (v : Value) : Option (Array Value) :=
  match v with
  | .tuple a => some a
  | _ => none
def dExtract (t : Operand) (i : Nat) : Exe := ⟨0, fun ρ st => match (opdOf t).f ρ with
    | some v => match asTuple v with
      | some vs => one st (vs.toList[i]?)
      | none => none
    | none => none⟩
def dCall (E : Env) (c : Call) : Exe := match c.callee with
    | .builtin b => ⟨1, fun ρ st => match opdsF ρ c.args.toList with
      | some args => two ((biOf E b).f st c.argTypes args)
      | none => none⟩
    | .value f => ⟨1, fun ρ st => match opdsF ρ c.args.toList with
      | some args => match (opdOf f).f ρ with | some f => callA E st f args | none => none
      | none => none⟩
    | .invoke _ _ => ⟨1, fun _ _ => none⟩
def dMakeFunc (E : Env) (fn : Fn) (first captured : Array Operand) : Exe := ⟨0, fun ρ st => execA E (byN ρ) st (.makeFunc fn first captured)⟩
def dMakeMap (E : Env) (t : TypeId) (r : Option Operand) : Exe := ⟨0, fun ρ st => execA E (byN ρ) st (.makeMap t r)⟩

def exeOf (E : Env) (op : Op) : Exe :=
  Op.rec (motive := fun _ => Exe) (move := dMove) (assign := dMove) (pick := dPick) (alloc := dAlloc E) (box := dBox E) (build := dBuild E) (buildSlice := dBuildSlice E) (insert := dInsert E)
    (load := dLoad E) (store := dStore E) (ready := fun g => dGen E (.ready g)) (waits := fun g => dGen E (.waits g)) (nilCheck := dNil) (binOp := dBin E) (unOp := dUn) (convert := dConvert E)
    (sliceToArrayPointer := fun d x => dGen E (.sliceToArrayPointer d x)) (makeInterface := fun t x => dGen E (.makeInterface t x)) (makeFunc := dMakeFunc E) (makeMap := dMakeMap E)
    (makeChan := fun t s => dGen E (.makeChan t s)) (makeSlice := fun t l c => dGen E (.makeSlice t l c)) (slice := dSlice E) (fieldAddr := dFieldAddr E) (field := dField E) (indexAddr := dIndexAddr E) (index := dIndex E)
    (lookup := dLookup E) (mapUpdate := dInsert E) (mapEntry := fun t m k => dGen E (.mapEntry t m k)) (entryStore := fun t m s v => dGen E (.entryStore t m s v)) (range := dRange E)
    (next := fun it s => ⟨2, fun ρ st => execA E (byN ρ) st (.next it s)⟩) (entry := fun it => dGen E (.entry it)) (typeAssert := fun x a b c => dGen E (.typeAssert x a b c)) (extract := dExtract) (call := dCall E)
    (go := fun c => dGen E (.go c)) (defer := fun c => dGen E (.defer c)) (panic := fun x => dGen E (.panic x)) (send := fun c x => dGen E (.send c x)) (recv := fun a b c => dGen E (.recv a b c)) (select := fun a b => dGen E (.select a b)) op

theorem fPtr_eq (f : Addr → Option (ORes × St)) (x : Option Value) : fPtr f x = match x with
    | some (.pointer (some a)) => f a
    | _ => none := by
  unfold fPtr
  cases x with
  | none => rfl
  | some v =>
    cases v with
    | pointer a => cases a <;> rfl
    | _ => rfl

theorem exeOf_eq (E : Env) (op : Op) (ρ : Way) (st : St) : (exeOf E op).run ρ st = execA E (byN ρ) st op := by
  cases op with
  | move x => show oneF st ((opdOf x).f ρ) = _; rw [opdOf_eq, oneF_eq]; rfl
  | assign x => show oneF st ((opdOf x).f ρ) = _; rw [opdOf_eq, oneF_eq]; rfl
  | pick c a b =>
    show fPick ((opdOf c).f ρ) ((opdOf a).f ρ) ((opdOf b).f ρ) st = _
    simp only [opdOf_eq, execA]
    unfold fPick
    cases opd (byN ρ) c with
    | none => rfl
    | some x => cases x with
      | bool t => cases opd (byN ρ) a with
        | none => rfl
        | some x => cases opd (byN ρ) b with
          | none => rfl
          | some y => cases t <;> rfl
      | _ => rfl
  | load t a =>
    show fPtr _ ((opdOf a).f ρ) = _
    rw [fPtr_eq]
    simp only [opdOf_eq, execA, loadOf_eq, oneF_eq]
    rfl
  | store t a x =>
    show fPtr _ ((opdOf a).f ρ) = _
    rw [fPtr_eq]
    simp only [opdOf_eq, execA, storeOf_eq]
    cases opd (byN ρ) a with
    | none => rfl
    | some v => cases v with
      | pointer p => cases p with
        | none => rfl
        | some p => cases opd (byN ρ) x <;> rfl
      | _ => rfl
  | binOp op t x y u =>
    show f2 _ ((opdOf x).f ρ) ((opdOf y).f ρ) = _
    simp only [opdOf_eq, execA, binOf_eq, oneF_eq]
    unfold f2
    cases opd (byN ρ) x with
    | none => rfl
    | some v => cases opd (byN ρ) y <;> rfl
  | insert t m k v =>
    show (match (opdOf m).f ρ with | some m => f2 _ ((opdOf k).f ρ) ((opdOf v).f ρ) | none => none) = _
    simp only [opdOf_eq, execA, oneF_eq]
    unfold f2
    cases opd (byN ρ) m with
    | none => rfl
    | some x => cases opd (byN ρ) k with
      | none => rfl
      | some y => cases opd (byN ρ) v <;> rfl
  | mapUpdate t m k v =>
    show (match (opdOf m).f ρ with | some m => f2 _ ((opdOf k).f ρ) ((opdOf v).f ρ) | none => none) = _
    simp only [opdOf_eq, execA, oneF_eq]
    unfold f2
    cases opd (byN ρ) m with
    | none => rfl
    | some x => cases opd (byN ρ) k with
      | none => rfl
      | some y => cases opd (byN ρ) v <;> rfl
  | fieldAddr t x f =>
    show fVal _ ((opdOf x).f ρ) st = _
    simp only [opdOf_eq, execA]
    unfold fVal
    simp only [oneF_eq]
    cases opd (byN ρ) x with
    | none => rfl
    | some v => simp only [fieldAddrOf_eq]
  | field t x f =>
    show fVal _ ((opdOf x).f ρ) st = _
    simp only [opdOf_eq, execA]
    unfold fVal
    simp only [oneF_eq]
    cases opd (byN ρ) x <;> rfl
  | unOp op t x =>
    show fVal _ ((opdOf x).f ρ) st = _
    simp only [opdOf_eq, execA]
    unfold fVal
    simp only [oneF_eq]
    cases opd (byN ρ) x <;> rfl
  | indexAddr t x i =>
    show f2 _ ((opdOf x).f ρ) ((opdOf i).f ρ) = _
    simp only [opdOf_eq, execA, oneF_eq]
    unfold f2
    cases opd (byN ρ) x with
    | none => rfl
    | some v => cases opd (byN ρ) i <;> rfl
  | index t x i =>
    show f2 _ ((opdOf x).f ρ) ((opdOf i).f ρ) = _
    simp only [opdOf_eq, execA, oneF_eq]
    unfold f2
    cases opd (byN ρ) x with
    | none => rfl
    | some v => cases opd (byN ρ) i <;> rfl
  | lookup t x i ok =>
    show f2 _ ((opdOf x).f ρ) ((opdOf i).f ρ) = _
    simp only [opdOf_eq, execA, oneF_eq]
    unfold f2
    cases opd (byN ρ) x with
    | none => rfl
    | some v => cases opd (byN ρ) i <;> rfl
  | extract t i =>
    show (match (opdOf t).f ρ with | some v => _ | none => none) = _
    simp only [opdOf_eq, execA]
    cases opd (byN ρ) t with
    | none => rfl
    | some v => cases v <;> rfl
  | box t x => show (match (opdOf x).f ρ with | some v => two (boxA E st t v) | none => none) = _; rw [opdOf_eq]; rfl
  | convert s d x => show (match (opdOf x).f ρ with | some v => two (convertA E st s d v) | none => none) = _; rw [opdOf_eq]; rfl
  | range t x => show (match (opdOf x).f ρ with | some v => two (rangeA E st t v) | none => none) = _; rw [opdOf_eq]; rfl
  | nilCheck x => simp only [exeOf, dNil, opdOf_eq, execA]; rfl
  | slice t x lo hi mx => simp only [exeOf, dSlice, opdOf_eq, execA]; rfl
  | call c =>
    show (dCall E c).run ρ st = _
    unfold dCall
    simp only [execA, opdsF_eq]
    cases hc : c.callee with
    | builtin b => simp only [biOf_eq]; cases opds (byN ρ) c.args.toList <;> rfl
    | value f => simp only [opdOf_eq]; cases opds (byN ρ) c.args.toList <;> rfl
    | invoke a b => cases opds (byN ρ) c.args.toList <;> rfl
  | _ => rfl

/-! ## Rows of operations -/
def resF (self : Self) (x : Option (ORes × St)) : Option (List RRes) :=
  Option.rec (motive := fun _ => Option (List RRes)) none (fun x => Prod.rec (motive := fun _ => Option (List RRes)) (fun r s => ORes.rec (motive := fun _ => Option (List RRes)) (fun v => some [{ v := v, s := s }])
    (fun f args => self.call f args s) (fun l args => roundA self l args s) r) x) x

/-- What parts, and what comes next: as it was. -/
def operSlow (E : Env) (self : Self) (ρ : Way) (st : St) (o : Oper) : Option (List RRes) := operA E self (byN ρ) st o

/-- May a call part? -/
def mayFork (E : Env) (op : Op) : Bool :=
  match op with
  | .call c => match c.callee with
    | .builtin .append => match E.forks with
      | [] => false
      | _ => true
    | .builtin _ => false
    | .value f => match f with
      | .func g => match E.fn.get g with
        | some _ => false
        | none => true
      | _ => true
    | _ => false
  | _ => true

def operF (E : Env) (self : Self) (ρ : Way) (st : St) (o : Oper) : Option (List RRes) :=
  match (exeOf E o.op).kind with
  | 0 => resF self ((exeOf E o.op).run ρ st)
  | k + 1 => match k with
    | 0 => match mayFork E o.op with
      | false => resF self ((exeOf E o.op).run ρ st)
      | true => operSlow E self ρ st o
    | _ + 1 => operSlow E self ρ st o

theorem resF_eq (self : Self) (x : Option (ORes × St)) : resF self x = (match x with
        | some (.val v, st') => some [{ v := v, s := st' }]
        | some (.enter f args, st') => self.call f args st'
        | some (.round l args, st') => roundA self l args st'
        | none => none) := by
  cases x with
  | none => rfl
  | some x => obtain ⟨r, s⟩ := x; cases r <;> rfl

theorem kind_zero {E : Env} {op : Op} (h : (exeOf E op).kind = 0) : (∀ it s, op ≠ .next it s) ∧ ∀ ρ st, forkA E ρ st op = none := by
  cases op <;> first
    | (exfalso; have h : (2 : Nat) = 0 := h; exact absurd h (by decide); done)
    | (refine ⟨fun _ _ e => ?_, fun _ _ => rfl⟩; cases e; done)
    | (rename_i c
       exfalso
       have : (dCall E c).kind = 1 := by unfold dCall; cases c.callee <;> rfl
       rw [show (exeOf E (.call c)).kind = (dCall E c).kind from rfl, this] at h
       cases h)

theorem fork_no {E : Env} {op : Op} (h : mayFork E op = false) : (∀ it s, op ≠ .next it s) ∧ ∀ ρ st, forkA E ρ st op = none := by
  cases op <;> first
    | (exfalso; have h : true = false := h; cases h; done)
    | (rename_i c
       refine ⟨fun _ _ e => (by cases e), fun ρ st => ?_⟩
       unfold mayFork at h
       unfold forkA
       simp only [] at h ⊢
       cases hc : c.callee with
       | invoke a b => rfl
       | builtin b =>
         rw [hc] at h
         cases b <;> first
           | rfl
           | (simp only [] at h ⊢
              cases hf : E.forks with
              | nil => rfl
              | cons a b => rw [hf] at h; cases h)
       | value f =>
         rw [hc] at h
         cases f with
         | func g =>
           simp only [] at h
           cases hg : E.fn.get g with
           | none => rw [hg] at h; cases h
           | some x => simp only [opd, hg]
         | _ => cases h)

theorem operF_eq (E : Env) (self : Self) (ρ : Way) (st : St) (o : Oper) : operF E self ρ st o = operA E self (byN ρ) st o := by
  have key : ∀ (_ : (∀ it s, o.op ≠ .next it s) ∧ ∀ ρ st, forkA E ρ st o.op = none), resF self ((exeOf E o.op).run ρ st) = operA E self (byN ρ) st o := by
    intro h
    have h0 : operA E self (byN ρ) st o = (match forkA E (byN ρ) st o.op with
      | some l => some l
      | none => match execA E (byN ρ) st o.op with
        | some (.val v, st') => some [{ v := v, s := st' }]
        | some (.enter f args, st') => self.call f args st'
        | some (.round l args, st') => roundA self l args st'
        | none => none) := by
      unfold operA
      split
      · rename_i it s e; exact absurd e (h.1 it s)
      · rfl
    rw [h0, h.2, exeOf_eq, resF_eq]
  unfold operF
  cases hk : (exeOf E o.op).kind with
  | zero => exact key (kind_zero hk)
  | succ k =>
    cases k with
    | zero =>
      simp only []
      cases hm : mayFork E o.op with
      | false => exact key (fork_no hm)
      | true => rfl
    | succ k => rfl

structure GuardD where
  f : Way → Bool

def guardOf (o : Oper) (ops : Array Oper) : GuardD :=
  match o.guard with
  | none => ⟨fun _ => true⟩
  | some (j, want) => match ops.toList[j]? with
    | some p => match p.dst with
      | some d => ⟨fun ρ => match ρ (pathOf d) with
        | .bool b => b == want
        | _ => false⟩
      | none => ⟨fun _ => false⟩
    | none => ⟨fun _ => false⟩

theorem guardOf_eq (o : Oper) (ops : Array Oper) (ρ : Way) : (guardOf o ops).f ρ = wantedA o ops (byN ρ) := by
  unfold guardOf wantedA
  cases h : o.guard with
  | none => rfl
  | some x =>
    obtain ⟨j, want⟩ := x
    simp only []
    cases ops.toList[j]? with
    | none => rfl
    | some p =>
      simp only []
      cases p.dst with
      | none => rfl
      | some d => rfl

def collectF {α β : Type} (f : α → Option (List β)) (l : List α) : Option (List β) :=
  List.rec (motive := fun _ => Option (List β)) (some []) (fun x r _ => List.rec (motive := fun _ => Option (List β)) (f x) (fun _ _ _ => collect f l) r) l

theorem collectF_eq {α β : Type} (f : α → Option (List β)) (l : List α) : collectF f l = collect f l := by
  cases l with
  | nil => rfl
  | cons x r => cases r <;> rfl

/-- An operation that neither forks nor calls. -/
structure StepD where
  f : Self → (Tr Value → St → Option (List CRes)) → Tr Value → St → Option (List CRes)

def stepGen (E : Env) (nt : Nat) (ops : Array Oper) (o : Oper) (self : Self) (k : Tr Value → St → Option (List CRes)) (t : Tr Value) (st : St) : Option (List CRes) :=
  match (guardOf o ops).f (lookP t) with
  | true => match operF E self (lookP t) st o with
    | some l => collectF (fun (x : RRes) => match x with
      | ⟨v, s⟩ => match (putOf nt o.dst).f t v with
        | some t' => k t' s
        | none => none) l
    | none => none
  | false => match (putOf nt o.dst).f t undefV with
    | some t' => k t' st
    | none => none

def stepOf (E : Env) (nt : Nat) (ops : Array Oper) (o : Oper) : StepD :=
  match o.guard with
  | some _ => ⟨fun self k t st => stepGen E nt ops o self k t st⟩
  | none => match (exeOf E o.op).kind with
    | 0 => ⟨fun self k t st => Option.rec (motive := fun _ => Option (List CRes)) none (fun x => Prod.rec (motive := fun _ => Option (List CRes)) (fun r s => ORes.rec (motive := fun _ => Option (List CRes))
        (fun v => Option.rec (motive := fun _ => Option (List CRes)) none (fun t' => k t' s) ((putOf nt o.dst).f t v)) (fun _ _ => stepGen E nt ops o self k t st) (fun _ _ => stepGen E nt ops o self k t st) r) x)
        ((exeOf E o.op).run (lookP t) st)⟩
    | _ + 1 => ⟨fun self k t st => stepGen E nt ops o self k t st⟩

def stepA1 (E : Env) (nt : Nat) (ops : Array Oper) (o : Oper) (self : Self) (k : Tr Value → St → Option (List CRes)) (t : Tr Value) (st : St) : Option (List CRes) :=
  cond (wantedA o ops (look t))
    (match operA E self (look t) st o with
     | some l => collect (fun (x : RRes) => match put nt t o.dst x.v with
        | some t => k t x.s
        | none => none) l
     | none => none)
    (match put nt t o.dst undefV with
     | some t => k t st
     | none => none)

theorem stepGen_eq (E : Env) (nt : Nat) (ops : Array Oper) (o : Oper) (self : Self) (k : Tr Value → St → Option (List CRes)) (t : Tr Value) (st : St) : stepGen E nt ops o self k t st = stepA1 E nt ops o self k t st := by
  unfold stepGen stepA1
  simp only [guardOf_eq, operF_eq, putOf_eq, collectF_eq, byN_look]
  cases wantedA o ops (look t) <;> rfl

theorem stepOf_eq (E : Env) (nt : Nat) (ops : Array Oper) (o : Oper) (self : Self) (k : Tr Value → St → Option (List CRes)) (t : Tr Value) (st : St) : (stepOf E nt ops o).f self k t st = stepA1 E nt ops o self k t st := by
  unfold stepOf
  cases hg : o.guard with
  | some x => exact stepGen_eq E nt ops o self k t st
  | none =>
    simp only []
    have hw : wantedA o ops (look t) = true := by simp only [wantedA, hg]
    cases hk : (exeOf E o.op).kind with
    | succ n => exact stepGen_eq E nt ops o self k t st
    | zero =>
      simp only []
      rw [exeOf_eq, byN_look]
      have hz := kind_zero hk
      have hop : operA E self (look t) st o = resF self (execA E (look t) st o.op) := by
        rw [← byN_look, ← operF_eq]
        unfold operF
        rw [hk]
        simp only []
        rw [exeOf_eq]
      cases hx : execA E (look t) st o.op with
      | none =>
        unfold stepA1
        rw [hw, hop, hx]
        rfl
      | some x =>
        obtain ⟨r, s⟩ := x
        cases r with
        | val v =>
          unfold stepA1
          rw [hw, hop, hx]
          simp only [resF, cond_true, putOf_eq]
          show Option.rec (motive := fun _ => Option (List CRes)) none (fun t' => k t' s) (put nt t o.dst v) = _
          cases h : put nt t o.dst v with
          | none => simp only [collect, h]
          | some t' => simp only [collect, h]
        | _ => exact stepGen_eq E nt ops o self k t st

def runOpsF (E : Env) (self : Self) (nt : Nat) (ops : Array Oper) (defs : List Nat) (l : List Oper) : Tr Value → St → Option (List CRes) :=
  List.rec (motive := fun _ => Tr Value → St → Option (List CRes)) (fun t st => some [{ e := .normal, t := t, d := defs, s := st }])
    (fun o _ ih t st => (stepOf E nt ops o).f self ih t st) l

theorem runOpsF_eq (E : Env) (self : Self) (nt : Nat) (ops : Array Oper) (defs : List Nat) : ∀ (l : List Oper) (t : Tr Value) (st : St), runOpsF E self nt ops defs l t st = runOps E self nt ops defs l t st
  | [], t, st => rfl
  | o :: r, t, st => by
    show (stepOf E nt ops o).f self (runOpsF E self nt ops defs r) t st = _
    rw [stepOf_eq]
    have : runOpsF E self nt ops defs r = runOps E self nt ops defs r := by
      funext t st; exact runOpsF_eq E self nt ops defs r t st
    rw [this]
    rfl

/-! ## Drawn regions -/
def exeF (E : Env) (ρ : Way) (st : St) (op : Op) : Option (ORes × St) := (exeOf E op).run ρ st

def recOkF (E : Env) (st : St) (r : Rec) : Bool :=
  match exeF E (byP r.ρ) st r.x.o.op with
  | some x => match x.1 with
    | .val v => vEq 100 v r.v
    | _ => false
  | none => false

theorem recOkF_eq (E : Env) (st : St) (r : Rec) : recOkF E st r = recOk E st r := by
  unfold recOkF recOk exeF
  rw [exeOf_eq, byN_byP]
  cases execA E r.ρ st r.x.o.op with
  | none => rfl
  | some x => obtain ⟨a, b⟩ := x; cases a <;> rfl

def runItemsF (E : Env) (nt : Nat) (ops : Array Oper) : List Item → Tr Value → St → List Rec → Option (Tr Value × St × List Rec)
  | [], t, st, recs => some (t, st, recs)
  | x :: r, t, st, recs =>
    match (guardOf x.o ops).f (lookP t) with
    | true => (match exeF E (lookP t) st x.o.op with
       | some y => match y.1 with
         | .val v => match (putOf nt x.dst).f t v with
           | some t' => runItemsF E nt ops r t' y.2 (match x.kd with | .reads => { x := x, ρ := look t, v := v } :: recs | _ => recs)
           | none => none
         | _ => none
       | none => none)
    | false => (match (putOf nt x.dst).f t undefV with
       | some t' => runItemsF E nt ops r t' st recs
       | none => none)

theorem runItemsF_eq (E : Env) (nt : Nat) (ops : Array Oper) : ∀ (l : List Item) (t : Tr Value) (st : St) (recs : List Rec), runItemsF E nt ops l t st recs = runItems E nt ops l t st recs
  | [], _, _, _ => rfl
  | x :: r, t, st, recs => by
    unfold runItemsF runItems exeF
    rw [guardOf_eq, exeOf_eq, byN_look]
    cases wantedA x.o ops (look t) with
    | true =>
      simp only [cond_true]
      cases execA E (look t) st x.o.op with
      | none => rfl
      | some y =>
        obtain ⟨a, b⟩ := y
        cases a with
        | val v =>
          simp only [putOf_eq]
          cases put nt t x.dst v with
          | none => rfl
          | some t' => exact runItemsF_eq E nt ops r _ _ _
        | _ => rfl
    | false =>
      simp only [cond_false, putOf_eq]
      cases put nt t x.dst undefV with
      | none => rfl
      | some t' => exact runItemsF_eq E nt ops r _ _ _

def runPhasesF (E : Env) (self : Self) (nt : Nat) (ops : Array Oper) (defs : List Nat) : List (List Item × Option Item) → Tr Value → St → List Rec → Option (List CRes)
  | [], _, _, _ => none
  | (xs, a) :: r, t, st, recs =>
    match runItemsF E nt ops xs t st recs with
    | some (t1, st1, recs1) =>
      cond (recs1.all (recOkF E st1))
        (match a with
         | none => some [{ e := .normal, t := t1, d := defs, s := st1 }]
         | some a =>
           let recs2 := recs1.filter fun r => !hasBit a.bef r.x.ix
           cond ((guardOf a.o ops).f (lookP t1))
             (match operF E self (lookP t1) st1 a.o with
              | some l => collectF (fun (x : RRes) => match put nt t1 a.dst x.v with
                  | some t2 => runPhasesF E self nt ops defs r t2 x.s recs2
                  | none => none) l
              | none => none)
             (match put nt t1 a.dst undefV with
              | some t2 => runPhasesF E self nt ops defs r t2 st1 recs2
              | none => none))
        none
    | none => none

theorem runPhasesF_eq (E : Env) (self : Self) (nt : Nat) (ops : Array Oper) (defs : List Nat) : ∀ (l : List (List Item × Option Item)) (t : Tr Value) (st : St) (recs : List Rec),
    runPhasesF E self nt ops defs l t st recs = runPhases E self nt ops defs l t st recs
  | [], _, _, _ => rfl
  | (xs, a) :: r, t, st, recs => by
    have ih : runPhasesF E self nt ops defs r = runPhases E self nt ops defs r := by
      funext t st recs; exact runPhasesF_eq E self nt ops defs r t st recs
    have hrec : ∀ s, recOkF E s = recOk E s := fun s => by funext r; exact recOkF_eq E s r
    unfold runPhasesF runPhases
    simp only [runItemsF_eq, hrec, operF_eq, collectF_eq, ih, byN_look, guardOf_eq]
    rfl

def runDrawnF (E : Env) (self : Self) (nt : Nat) (ops : Array Oper) (t : Tr Value) (d : List Nat) (s : St) : Option (List CRes) :=
  match planOf E ops with
  | some ps => runPhasesF E self nt ops d ps t s []
  | none => none

theorem runDrawnF_eq (E : Env) (self : Self) (nt : Nat) (ops : Array Oper) (t : Tr Value) (d : List Nat) (s : St) : runDrawnF E self nt ops t d s = runDrawn E self nt ops t d s := by
  unfold runDrawnF runDrawn
  simp only [runPhasesF_eq]
  rfl

/-! ## Statements -/
abbrev CodeK := Tr Value → List Nat → St → Option (List CRes)

def nextN (b : CodeK) (x : CRes) : Option (List CRes) :=
  CRes.rec (motive := fun _ => Option (List CRes)) (fun e t d s => AExit.rec (motive := fun _ => Option (List CRes)) (b t d s) (fun i => some [⟨.exit i, t, d, s⟩]) (fun l => some [⟨.goto l, t, d, s⟩]) (some [⟨.ret, t, d, s⟩]) e) x

theorem nextN_eq (b : CodeK) : nextN b = fun x => match x.e with
    | .normal => b x.t x.d x.s
    | _ => some [x] := by
  funext x
  cases x with
  | mk e t d s => cases e <;> rfl

def nextB (id : Nat) (x : CRes) : Option (List CRes) :=
  match x with
  | ⟨e, t, d, s⟩ => match e with
    | .normal => some [⟨.normal, t, d, s⟩]
    | .exit i => match Nat.beq i id with
      | true => some [⟨.normal, t, d, s⟩]
      | false => some [⟨.exit i, t, d, s⟩]
    | .goto l => some [⟨.goto l, t, d, s⟩]
    | .ret => some [⟨.ret, t, d, s⟩]

theorem nextB_eq (id : Nat) : nextB id = fun (x : CRes) => match x.e with
    | .exit i => cond (Nat.beq i id) (some [{ x with e := .normal }]) (some [x])
    | _ => some [x] := by
  funext x
  cases x with
  | mk e t d s => cases e with
    | exit i => simp only [nextB]; cases Nat.beq i id <;> rfl
    | _ => rfl

def kSeq (a b : CodeK) : CodeK := fun t d s =>
  Option.rec (motive := fun _ => Option (List CRes)) none (fun l => collectF (nextN b) l) (a t d s)

def kCond (c : Operand) (a b : CodeK) : CodeK := fun t d s =>
  match (opdOf c).f (lookP t) with
  | some v => match v with
    | .bool v => match v with
      | true => a t d s
      | false => b t d s
    | _ => none
  | none => none

def kBlock (id : Nat) (b : CodeK) : CodeK := fun t d s =>
  match b t d s with
  | some l => collectF (nextB id) l
  | none => none

def kLoop (next : CodeK) (b : CodeK) : CodeK := fun t d s =>
  match b t d s with
  | some l => collectF (nextN next) l
  | none => none

def kScope (b : CodeK) : CodeK := fun t d s =>
  match b t d s with
  | some l => collectF (fun (x : CRes) => match x.e with
    | .goto _ => none
    | _ => some [x]) l
  | none => none

def kRegion (E : Env) (self : Self) (nt : Nat) (ops : Array Oper) (dr : Bool) : CodeK :=
  match dr with
  | true => fun t d s => runDrawnF E self nt ops t d s
  | false => fun t d s => runOpsF E self nt ops d ops.toList t s

def kEnd (e : AExit) : CodeK := fun t d s => some [{ e := e, t := t, d := d, s := s }]

def codeF (E : Env) (self : Self) (ro : Option Nat) (fn : FuncId) (nt : Nat) (c : Code) : CodeK :=
  Code.rec (motive := fun _ => CodeK) (skip := kEnd .normal) (region := fun _ ops dr => kRegion E self nt ops dr) (seq := fun _ _ a b => kSeq a b)
    (cond := fun c _ _ a b => kCond c a b) (block := fun id _ b => kBlock id b) (loop := fun c b => kLoop (self.code ro fn nt (.loop c)) b)
    (rangeFunc := fun f ps as b _ _ => fun t d s => rangeFuncA E self ro fn nt f ps.toList as b t d s)
    (exit := fun id => kEnd (.exit id)) (goto := fun l => kEnd (.goto l)) (ret := kEnd .ret) (scope := fun _ b => kScope b) (label := fun _ => kEnd .normal) (refuse := fun _ => fun _ _ _ => none) c

theorem codeF_eq (E : Env) (self : Self) (ro : Option Nat) (fn : FuncId) (nt : Nat) (c : Code) : codeF E self ro fn nt c = codeA E self ro fn nt c := by
  induction c with
  | skip => rfl
  | region id ops dr =>
    funext t d s
    show kRegion E self nt ops dr t d s = _
    cases dr with
    | true => exact runDrawnF_eq E self nt ops t d s
    | false => exact runOpsF_eq E self nt ops d ops.toList t s
  | seq a b iha ihb =>
    funext t d s
    show kSeq (codeF E self ro fn nt a) (codeF E self ro fn nt b) t d s = _
    rw [iha, ihb]
    unfold kSeq
    simp only [collectF_eq, nextN_eq, codeA]
    cases codeA E self ro fn nt a t d s <;> rfl
  | cond c a b iha ihb =>
    funext t d s
    show kCond c (codeF E self ro fn nt a) (codeF E self ro fn nt b) t d s = _
    rw [iha, ihb]
    unfold kCond
    rw [opdOf_eq, byN_look]
    simp only [codeA]
    cases opd (look t) c with
    | none => rfl
    | some v => cases v with
      | bool v => cases v <;> rfl
      | _ => rfl
  | block id b ih =>
    funext t d s
    show kBlock id (codeF E self ro fn nt b) t d s = _
    rw [ih]
    unfold kBlock
    simp only [collectF_eq, nextB_eq]
    rfl
  | loop b ih =>
    funext t d s
    show kLoop (self.code ro fn nt (.loop b)) (codeF E self ro fn nt b) t d s = _
    rw [ih]
    unfold kLoop
    simp only [collectF_eq, nextN_eq]
    rfl
  | rangeFunc f ps as b => rfl
  | exit id => rfl
  | goto l => rfl
  | ret => rfl
  | scope b ih =>
    funext t d s
    show kScope (codeF E self ro fn nt b) t d s = _
    rw [ih]
    unfold kScope
    simp only [collectF_eq]
    rfl
  | label l => rfl
  | refuse r => rfl

structure FnD where
  f : Self → List Value → St → Option (List RRes)

def fnOf (E : Env) (f : FuncId) : FnD :=
  match E.fn.get f with
  | some fn => match fn.body with
    | some c => ⟨fun self args st => match initT args 0 .nil with
      | some t => match (match Nat.ble args.length fn.ntmps with
          | true => codeF E self none f fn.ntmps c t [] st
          | false => codeF E self none f (max fn.ntmps args.length) c t [] st) with
        | some l => match collectF (leaveA E fn) l with
          | some rs => some (endsOf E f st.next rs)
          | none => none
        | none => none
      | none => none⟩
    | none => ⟨fun _ _ _ => none⟩
  | none => ⟨fun _ _ _ => none⟩

theorem fnOf_eq (E : Env) (self : Self) (f : FuncId) (args : List Value) (st : St) : (fnOf E f).f self args st = callBody E self f args st := by
  unfold fnOf callBody
  cases E.fn.get f with
  | none => rfl
  | some fn =>
    simp only []
    cases fn.body with
    | none => rfl
    | some c =>
      simp only [codeF_eq, collectF_eq]
      cases initT args 0 .nil with
      | none => rfl
      | some t =>
        simp only []
        cases h : Nat.ble args.length fn.ntmps with
        | false => rfl
        | true =>
          rw [Nat.ble_eq] at h
          rw [Nat.max_eq_left h]
          rfl

def stepF (E : Env) (self : Self) : Self where
  code := codeF E self
  call := fun f args st => (fnOf E f).f self args st

def runF (E : Env) : Nat → Self
  | 0 => { code := fun _ _ _ _ _ _ _ => none, call := fun _ _ _ => none }
  | n + 1 => stepF E (runF E n)

theorem stepF_eq (E : Env) (self : Self) : stepF E self = stepA E self := by
  unfold stepF stepA
  congr 1
  · funext ro fn nt c; exact codeF_eq E self ro fn nt c
  · funext f args st; exact fnOf_eq E self f args st

theorem runF_eq (E : Env) : ∀ n, runF E n = run E n
  | 0 => rfl
  | n + 1 => by
    show stepF E (runF E n) = stepA E (run E n)
    rw [runF_eq E n, stepF_eq]

end
end Go.Det
