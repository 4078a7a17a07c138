/- What a function's code asks, written out: a plain formula, by going through the code once. -/
import Derived.Test.YtbhggmghelmnhaaClIter
namespace Go

def PHeap.empty : PHeap := fun _ => Option.none

/-! ### Values by their kind -/
def exLike (z : Value) (K : Value → Prop) : Prop :=
  match z with
  | .bool _ => ∃ b, K (.bool b)
  | .int k _ => ∃ x : Int, K (.int k x)
  | .string _ => ∃ s, K (.string s)
  | .pointer _ => ∃ p, K (.pointer p)
  | .slice _ _ _ => ∃ a l c, K (.slice a l c)
  | .map _ => ∃ m, K (.map m)
  | _ => ∃ v, K v
def exLikes : List Value → (List Value → Prop) → Prop
  | [], K => K []
  | z :: zs, K => exLike z fun v => exLikes zs fun vs => K (v :: vs)
def exVal (z : Value) (K : Value → Prop) : Prop :=
  match z with
  | .agg cs => exLikes cs.toList fun vs => K (.agg vs.toArray)
  | z => exLike z K
def allLike (z : Value) (K : Value → Prop) : Prop :=
  match z with
  | .bool _ => ∀ b, K (.bool b)
  | .int k _ => ∀ x : Int, K (.int k x)
  | .string _ => ∀ s, K (.string s)
  | .pointer _ => ∀ p, K (.pointer p)
  | .slice _ _ _ => ∀ a l c, K (.slice a l c)
  | .map _ => ∀ m, K (.map m)
  | _ => ∀ v, K v
def zeroOf (P : Program) (t : TypeId) : Value := ((P.info? t).bind (·.zero)).getD undef
def exVals (P : Program) : List TypeId → (List Value → Prop) → Prop
  | [], K => K []
  | t :: ts, K => exVal (zeroOf P t) fun v => exVals P ts fun vs => K (v :: vs)
/-- v, taken apart by its type. -/
def exOf (P : Program) (t : TypeId) (v : Value) (K : Value → Prop) : Prop :=
  match P.underlying t with
  | some (.tuple ts) => exVals P ts.toList fun vs => v = .tuple vs.toArray ∧ K (.tuple vs.toArray)
  | _ => exVal (zeroOf P t) fun u => v = u ∧ K u

theorem exLike_out {z : Value} {K : Value → Prop} (h : exLike z K) : ∃ v, K v := by
  cases z <;> simp only [exLike] at h <;> first
    | (obtain ⟨a, l, c, h⟩ := h; exact ⟨_, h⟩)
    | (obtain ⟨b, h⟩ := h; exact ⟨_, h⟩)
theorem exLikes_out : ∀ {zs : List Value} {K : List Value → Prop}, exLikes zs K → ∃ vs, K vs
  | [], _, h => ⟨[], h⟩
  | _ :: _, _, h => let ⟨_, h1⟩ := exLike_out h; let ⟨_, h2⟩ := exLikes_out h1; ⟨_, h2⟩
theorem exVal_out {z : Value} {K : Value → Prop} (h : exVal z K) : ∃ v, K v := by
  cases z with
  | agg cs => obtain ⟨vs, h⟩ := exLikes_out h; exact ⟨_, h⟩
  | _ => simp only [exVal] at h; exact exLike_out h
theorem exVals_out {P : Program} : ∀ {ts : List TypeId} {K : List Value → Prop}, exVals P ts K → ∃ vs, K vs
  | [], _, h => ⟨[], h⟩
  | _ :: _, _, h => let ⟨_, h1⟩ := exVal_out h; let ⟨_, h2⟩ := exVals_out h1; ⟨_, h2⟩
theorem exOf_out {P : Program} {t : TypeId} {v : Value} {K : Value → Prop} (h : exOf P t v K) : K v := by
  unfold exOf at h
  split at h
  · obtain ⟨vs, h1, h2⟩ := exVals_out h
    rw [h1]; exact h2
  · obtain ⟨u, h1, h2⟩ := exVal_out h
    rw [h1]; exact h2

/-! ### The environment of a region -/
structure NEnt where
  v : Value
  g : Option (Nat × Bool)
  lit : Bool
abbrev NEnv := Nat → Option NEnt
def NEnv.put (e : NEnv) (d : Option Nat) (x : NEnt) : NEnv :=
  match d with
  | some d => fun i => cond (Nat.beq i d) (some x) (e i)
  | none => e
def beqB : Bool → Bool → Bool
  | true, b => b
  | false, b => !b
def curIs (cur : Option (Nat × Bool)) (g : Nat) (b : Bool) : Bool :=
  match cur with
  | some (g', b') => Nat.beq g g' && beqB b b'
  | none => false
/-- Has the guard been decided so? -/
def NEnv.decided (e : NEnv) (g : Nat) (b : Bool) : Bool :=
  match e g with
  | some { v := .bool b', g := none, lit := true } => beqB b' b
  | _ => false
def NEnv.rd (e : NEnv) (cur : Option (Nat × Bool)) (i : Nat) : Option Value :=
  match e i with
  | none => none
  | some x => match x.g with
    | none => some x.v
    | some (g, b) => cond (curIs cur g b || e.decided g b) (some x.v) none
def NEnv.opd (e : NEnv) (cur : Option (Nat × Bool)) : Operand → Option Value
  | .tmp t => e.rd cur t
  | .const v => some v
  | .global g => some (.pointer (some ⟨g, 0, none⟩))
  | .func f => some (.func (.func f) #[] #[])
def NEnv.rho (e : NEnv) (cur : Option (Nat × Bool)) (x : Operand) : Value := (e.opd cur x).getD undef
def NEnv.strip (e : NEnv) : CEnv := fun i =>
  match e i with
  | some { v, g := none, .. } => some v
  | _ => none
def NEnv.lift (e : CEnv) : NEnv := fun i =>
  match e i with
  | some v => some { v, g := none, lit := false }
  | none => none

def onlyIf : Bool → Prop → Prop
  | true, A => A
  | false, _ => False
def bCase : Bool → Prop → Prop → Prop
  | true, A, _ => A
  | false, _, B => B
theorem onlyIf_iff {b : Bool} {A : Prop} : onlyIf b A ↔ b = true ∧ A := by cases b <;> simp [onlyIf]

structure NState where
  e : NEnv
  H : PHeap
  reads : List (Nat × (PHeap → Prop))
  snaps : List (Nat × PHeap)
  gs : List Nat

def NState.put (s : NState) (d : Option Nat) (x : NEnt) : NState := { s with e := s.e.put d x }
def hasNat (l : List Nat) (d : Nat) : Bool :=
  match l with
  | [] => false
  | a :: l => Nat.beq a d || hasNat l d
def dFree (gs : List Nat) : Option Nat → Bool
  | none => true
  | some d => !hasNat gs d

def snapsOk (ord : Nat → Nat → Bool) (i : Nat) (c : PHeap → Prop) : List (Nat × PHeap) → Prop
  | [] => True
  | p :: r => cond (ord p.1 i) (snapsOk ord i c r) (c p.2 ∧ snapsOk ord i c r)
def readsOk (ord : Nat → Nat → Bool) (i : Nat) (H : PHeap) : List (Nat × (PHeap → Prop)) → Prop
  | [] => True
  | p :: r => cond (ord p.1 i) (readsOk ord i H r) (p.2 H ∧ readsOk ord i H r)
/-- snapsOk, and X. -/
def snapsAnd (ord : Nat → Nat → Bool) (i : Nat) (c : PHeap → Prop) (X : Prop) : List (Nat × PHeap) → Prop
  | [] => X
  | p :: r => match ord p.1 i with
    | true => snapsAnd ord i c X r
    | false => c p.2 ∧ snapsAnd ord i c X r
/-- readsOk, and X. -/
def readsAnd (ord : Nat → Nat → Bool) (i : Nat) (H : PHeap) (X : Prop) : List (Nat × (PHeap → Prop)) → Prop
  | [] => X
  | p :: r => match ord p.1 i with
    | true => readsAnd ord i H X r
    | false => p.2 H ∧ readsAnd ord i H X r
theorem snapsAnd_iff {ord : Nat → Nat → Bool} {i : Nat} {c : PHeap → Prop} {X : Prop} : ∀ {l : List (Nat × PHeap)}, snapsAnd ord i c X l ↔ snapsOk ord i c l ∧ X
  | [] => by simp [snapsAnd, snapsOk]
  | p :: r => by
    unfold snapsAnd snapsOk
    cases ord p.1 i <;> simp [snapsAnd_iff, and_assoc]
theorem readsAnd_iff {ord : Nat → Nat → Bool} {i : Nat} {H : PHeap} {X : Prop} : ∀ {l : List (Nat × (PHeap → Prop))}, readsAnd ord i H X l ↔ readsOk ord i H l ∧ X
  | [] => by simp [readsAnd, readsOk]
  | p :: r => by
    unfold readsAnd readsOk
    cases ord p.1 i <;> simp [readsAnd_iff, and_assoc]

/-! ### Single operations -/
/-- What needs no memory. -/
def totN (P : Program) (s : Sem Next) (K : Value → Prop) : Prop :=
  match s.rdH P .empty with
  | some (.value v) => K v
  | _ => False
/-- An element's address. -/
def idxN (P : Program) (t : TypeId) (x i : Value) (K : Value → Prop) : Prop :=
  match P.underlying t, x, i with
  | some (.slice elem), .slice a l _, .int _ n => match P.info? elem with
    | some e => ∃ p, a = some p ∧ 0 ≤ n ∧ n < l ∧ K (.pointer (some (p.add (n.toNat * e.size))))
    | none => False
  | some (.array len elem), .pointer a, .int _ n => match P.info? elem with
    | some e => ∃ p, a = some p ∧ 0 ≤ n ∧ n < len ∧ K (.pointer (some (p.add (n.toNat * e.size))))
    | none => False
  | _, _, _ => False
def bndN (len : Nat) : Option Value → Option Int
  | none => some len
  | some (.int _ n) => some n
  | _ => none
def addO (a : Option Addr) (k : Nat) : Option Addr :=
  match a with
  | some p => some (p.add k)
  | none => none
/-- A slice of a slice. -/
def slN (P : Program) (t : TypeId) (x : Value) (lo hi mx : Option Value) (K : Value → Prop) : Prop :=
  match P.underlying t, x, bndN 0 lo, mx with
  | some (.slice elem), .slice a len cap, some l, none =>
    match bndN len hi, P.info? elem with
    | some h, some e => 0 ≤ l ∧ l ≤ h ∧ h ≤ cap ∧ K (.slice (if cap = l.toNat then a else addO a (l.toNat * e.size)) (h.toNat - l.toNat) (cap - l.toNat))
    | _, _ => False
  | some (.slice elem), .slice a _ cap, some l, some (.int _ m) =>
    match hi, P.info? elem with
    | some (.int _ h), some e => 0 ≤ l ∧ l ≤ h ∧ h ≤ m ∧ m ≤ cap ∧ K (.slice (if m.toNat = l.toNat then a else addO a (l.toNat * e.size)) (h.toNat - l.toNat) (m.toNat - l.toNat))
    | _, _ => False
  | _, _, _, _ => False
def divN (op : BinOp) (x y : Value) (K : Value → Prop) : Prop :=
  match x, y with
  | .int k a, .int k' b => k = k' ∧ b ≠ 0 ∧ match op with
    | .quo => K (.int k (k.wrap (a.tdiv b)))
    | .rem => K (.int k (a.tmod b))
    | _ => False
  | _, _ => False
def shN (op : BinOp) (x y : Value) (K : Value → Prop) : Prop :=
  match x, y with
  | .int k a, .int _ b => 0 ≤ b ∧ match op with
    | .shl => K (.int k (k.wrap (a * 2 ^ min b.toNat k.bits)))
    | .shr => K (.int k (a.fdiv (2 ^ min b.toNat k.bits)))
    | _ => False
  | _, _ => False
/-- Equal, of what is no struct. -/
def eqScalar : Value → Value → Option Bool
  | .bool a, .bool b => some (a == b)
  | .int j a, .int k b => cond (decide (j = k)) (some (a == b)) none
  | .string a, .string b => some (a == b)
  | _, _ => none
def eqCells : List Value → List Value → Option Bool
  | [], [] => some true
  | x :: xs, y :: ys => match eqScalar x y, eqCells xs ys with
    | some a, some b => some (a && b)
    | _, _ => none
  | _, _ => none
def kindScalar : TypeDesc → Value → Bool
  | .bool, .bool _ => true
  | .int _, .int _ _ => true
  | .string, .string _ => true
  | _, _ => false
/-- A struct of plain fields, in their order, each of one cell. -/
def plainFields (P : Program) : List Field → Nat → List Value → Bool
  | [], _, [] => true
  | f :: fs, n, v :: vs => Nat.beq f.offset n && (f.name != "_") && (match P.underlying f.type with | some d => kindScalar d v | none => false) && plainFields P fs (n + 1) vs
  | _, _, _ => false
def eqN (P : Program) (neg : Bool) (t : TypeId) (x y : Value) (tot : Prop) (K : Value → Prop) : Prop :=
  match x, y with
  | .pointer a, .pointer none => match P.underlying t with
    | some (.pointer _) => K (.bool (match neg with | true => !a.isNone | false => a.isNone))
    | _ => False
  | .slice a _ _, .slice none _ _ => match P.underlying t with
    | some (.slice _) => K (.bool (match neg with | true => !a.isNone | false => a.isNone))
    | _ => False
  | .map a, .map none => match P.underlying t with
    | some (.map _ _) => K (.bool (match neg with | true => !a.isNone | false => a.isNone))
    | _ => False
  | .agg xs, .agg ys => match P.underlying t with
    | some (.struct fs) => onlyIf (plainFields P fs.toList 0 xs.toList && plainFields P fs.toList 0 ys.toList && !P.stoodInHeld t && !P.eqGuardType P.depth t) (match eqCells xs.toList ys.toList with
      | some b => K (.bool (match neg with | true => !b | false => b))
      | none => False)
    | _ => False
  | _, _ => tot
/-- Cells that lie in a row. -/
def PHeap.has (H : PHeap) (p : Addr) (cs : List Value) : Prop := ∀ j v, cs[j]? = some v → H.cell? (p.add j) = some v
def isAggT (P : Program) (t : TypeId) : Option Bool :=
  match P.underlying t with
  | some (.struct _) => some true
  | some (.array _ _) => some true
  | some _ => some false
  | none => none
/-- What is loaded. -/
def ldAt (P : Program) (H : PHeap) (t : TypeId) (a v : Value) : Prop :=
  match a, isAggT P t, v with
  | .pointer (some p), some true, .agg cs => onlyIf (Nat.beq cs.size (P.cellsOf t) && (P.info? t).isSome) (H.has p cs.toList)
  | .pointer (some p), some false, v => H.cell? p = some v
  | _, _, _ => False
/-- A store of cells in a row. -/
def writeAt (c : Array Value) (off : Nat) : List Value → Array Value
  | [] => c
  | v :: vs => writeAt (c.setIfInBounds off v) (off + 1) vs
def PHeap.storeTo (H : PHeap) (p : Addr) (vs : List Value) (H' : PHeap) : Prop :=
  ∃ c elem lo hi, H p.block = some (.cells c elem (lo, hi)) ∧ p.spot = none ∧ p.off + vs.length ≤ c.size ∧ (hi ≤ p.off ∨ p.off + vs.length ≤ lo ∨ hi ≤ lo) ∧ H' = H.put p.block (.cells (writeAt c p.off vs) elem (lo, hi))
def singles : List Value → Bool
  | [] => true
  | v :: vs => v.single && singles vs
def stN (P : Program) (H : PHeap) (t : TypeId) (a v : Value) (K : PHeap → Prop) : Prop :=
  match a with
  | .pointer (some p) => onlyIf ((match P.info? t with | some i => Nat.beq v.cells.size i.size | none => false) && singles v.cells.toList) (∃ H', H.storeTo p v.cells.toList H' ∧ K H')
  | _ => False

def entersB (P : Program) (f : FuncId) : Bool :=
  match P.funcs[f]? with
  | none => false
  | some fn => !(fn.name == "runtime.NumGoroutine") && !fn.body.isNone

def isConst : Operand → Bool
  | .const _ => true
  | _ => false
def pickN (b : Bool) (x y : Option Value) : Option Value :=
  match x, y with
  | some (.bool p), some (.bool q) => some (.bool (cond b p q))
  | _, _ => match b with
    | true => x
    | false => y
def condIs (c : Operand) (b : Bool) (g : Nat) (b' : Bool) : Bool :=
  match c with
  | .tmp ct => Nat.beq ct g && beqB b b'
  | _ => false
def NEnv.rdPick (e : NEnv) (cur : Option (Nat × Bool)) (c : Operand) (b : Bool) : Operand → Option Value
  | .tmp t => match e t with
    | none => none
    | some x => match x.g with
      | none => some x.v
      | some (g, b') => cond (curIs cur g b' || e.decided g b' || condIs c b g b') (some x.v) none
  | .const v => some v
  | _ => none
def NEnv.there (e : NEnv) : Operand → Bool
  | .tmp t => (e t).isSome
  | .const _ => true
  | _ => false

def opReady (e : NEnv) (cur : Option (Nat × Bool)) (o : Oper) : Bool := o.op.operands.all fun x => (e.opd cur x).isSome

/-- Does the operation fail nowhere, and need no memory? -/
def Op.total : Op → Bool
  | .move _ | .assign _ | .pick _ _ _ | .unOp _ _ _ | .convert _ _ _ | .extract _ _ | .makeFunc _ _ _ => true
  | .binOp op _ _ y _ => match op with
    | .quo | .rem => false
    | .shl | .shr => isConst y
    | _ => true
  | .call { callee := .builtin b, .. } => match b with
    | .min | .max => true
    | _ => false
  | _ => false
/-- len of a slice. -/
def lenTotal (P : Program) : Op → Bool
  | .call { callee := .builtin .len, argTypes, .. } => match argTypes[0]? with
    | some t => match P.underlying t with
      | some (.slice _) => true
      | _ => false
    | none => false
  | _ => false
def totalOp (P : Program) (o : Op) : Bool := o.total || lenTotal P o

/-- A nil check. -/
def nilN (x : Value) (tot : Prop) (K : Value → Prop) : Prop :=
  match x with
  | .pointer a => ∃ p, a = some p ∧ K (.pointer (some p))
  | _ => tot
/-- A field's address. -/
def fldN (P : Program) (t : TypeId) (x : Value) (f : Nat) (K : Value → Prop) : Prop :=
  match P.underlying t, x with
  | some (.struct fields), .pointer a => match fields[f]? with
    | some fd => match P.info? fd.type with
      | some i => match Nat.beq i.size 0, a with
        | false, some p => K (.pointer (some (p.add fd.offset)))
        | _, _ => False
      | none => False
    | none => False
  | _, _ => False
def placesOf (P : Program) : List Field → Option (List (Nat × Nat))
  | [] => some []
  | f :: fs => match P.info? f.type, placesOf P fs with
    | some i, some ps => some ((f.offset, i.size) :: ps)
    | _, _ => none
def appL : List Value → List Value → List Value
  | [], ys => ys
  | x :: xs, ys => x :: appL xs ys
theorem appL_eq {ys : List Value} : ∀ {xs : List Value}, appL xs ys = xs ++ ys
  | [] => rfl
  | x :: xs => congrArg (x :: ·) appL_eq
/-- A struct's cells: its parts, in their order; zeros where no part is. -/
def buildCells (z : List Value) : List (Nat × Nat) → Nat → Nat → List (Nat × Value) → Option (List Value)
  | [], _, _, [] => some []
  | [], _, _, _ :: _ => none
  | (o, sz) :: ps, i, off, [] => match Nat.beq o off, buildCells z ps (i + 1) (off + sz) [] with
    | true, some l => some (appL ((z.drop off).take sz) l)
    | _, _ => none
  | (o, sz) :: ps, i, off, (j, v) :: parts => match Nat.beq o off, Nat.beq i j with
    | true, true => match Nat.beq v.cells.size sz, buildCells z ps (i + 1) (off + sz) parts with
      | true, some l => some (appL v.cells.toList l)
      | _, _ => none
    | true, false => match buildCells z ps (i + 1) (off + sz) ((j, v) :: parts) with
      | some l => some (appL ((z.drop off).take sz) l)
      | none => none
    | _, _ => none
def sumSizes : List (Nat × Nat) → Nat
  | [] => 0
  | (_, sz) :: ps => sz + sumSizes ps
/-- A struct, built. -/
def buildN (P : Program) (t : TypeId) (parts : List (Nat × Value)) (K : Value → Prop) : Prop :=
  match P.underlying t, (P.info? t).bind (·.zero) with
  | some (.struct fields), some z => match placesOf P fields.toList with
    | some ps => match Nat.beq z.cells.size (sumSizes ps), buildCells z.cells.toList ps 0 0 parts with
      | true, some cells => K (.agg cells.toArray)
      | _, _ => False
    | none => False
  | _, _ => False
/-- A slice's elements, in their order. -/
def rowCells (sz : Nat) : Nat → List (Nat × Value) → Option (List Value)
  | _, [] => some []
  | i, (j, v) :: parts => match Nat.beq i j && Nat.beq v.cells.size sz, rowCells sz (i + 1) parts with
    | true, some l => some (appL v.cells.toList l)
    | _, _ => none
def newN (H : PHeap) (elem : TypeId) (cells : List Value) (F : Option Addr → PHeap → Prop) : Prop :=
  ∀ b, H b = none → F (some ⟨b, 0, none⟩) (H.put b (.cells cells.toArray elem (0, 0)))
/-- A slice, of its elements. -/
def rowN (P : Program) (H : PHeap) (t : TypeId) (len : Nat) (parts : List (Nat × Value)) (K : Value → PHeap → Prop) : Prop :=
  match P.underlying t with
  | some (.slice elem) => match P.info? elem with
    | some e => onlyIf (Nat.ble (len * e.size) 16777216 && Nat.beq parts.length len && e.zero.isSome) (match rowCells e.size 0 parts with
      | some cells => newN H elem cells fun a H' => K (.slice a len len) H'
      | none => False)
    | none => False
  | _ => False
/-- A row of cells, or nil. -/
def PHeap.rowAt (H : PHeap) (a : Option Addr) (cs : List Value) : Prop :=
  match a with
  | some p => H.has p cs
  | none => cs = []
def putRow (H : PHeap) (a : Option Addr) (vs : List Value) (H' : PHeap) : Prop :=
  match a with
  | some p => H.storeTo p vs H'
  | none => H' = H
/-- May these cells be appended? (xs: the cells; n: how many elements.) -/
def appOk (H : PHeap) (size bytes : Nat) (base : Option Addr) (sLen sCap n : Nat) (xs : List Value) : Prop :=
  (sLen + n ≤ sCap → ∃ H', putRow H (addO base (sLen * size)) xs H') ∧
  (sCap < sLen + n → Builtin.nextslicecap (sLen + n) sCap * bytes ≤ 2 ^ 48 ∧ sLen + n ≤ 2 ^ 62 ∧ ∃ ss : List Value, ss.length = sLen * size ∧ H.rowAt base ss)
/-- What append leaves: the slice's address and capacity, the heap. -/
def appRes (H : PHeap) (elem : TypeId) (size : Nat) (z : Array Value) (base : Option Addr) (sLen sCap n : Nat) (xs : List Value) (a : Option Addr) (c : Nat) (H' : PHeap) : Prop :=
  (sLen + n ≤ sCap ∧ a = base ∧ c = sCap ∧ putRow H (addO base (sLen * size)) xs H') ∨
  (sCap < sLen + n ∧ sLen + n ≤ c ∧ ∃ (b : Nat) (ss : List Value), H b = none ∧ a = some ⟨b, 0, none⟩ ∧ ss.length = sLen * size ∧ H.rowAt base ss ∧
    H' = H.put b (.cells (ss.toArray ++ xs.toArray ++ Builtin.zeroCells z (c - (sLen + n))) elem (0, 0)))
/-- append, of two slices. -/
def appN (P : Program) (H : PHeap) (t t2 : TypeId) (s x : Value) (K : Value → PHeap → Prop) : Prop :=
  match P.underlying t, P.underlying t2, s, x with
  | some (.slice elem), some (.slice _), .slice base sLen sCap, .slice xb n _ => match P.info? elem with
    | some e => match e.zero with
      | some z => ∃ xs : List Value, xs.length = n * e.size ∧ H.rowAt xb xs ∧ singles xs = true ∧ appOk H e.size e.bytes base sLen sCap n xs ∧
          ∀ (a : Option Addr) (c : Nat) (H' : PHeap), appRes H elem e.size z.cells base sLen sCap n xs a c H' → K (.slice a (sLen + n) c) H'
      | none => False
    | none => False
  | _, _, _, _ => False
def zeroRow (z : Array Value) (n : Nat) : Array Value := (Array.range n).map (z[· % z.size]!)
/-- A slice, made. -/
def mkN (P : Program) (H : PHeap) (t : TypeId) (len cap : Value) (K : Value → PHeap → Prop) : Prop :=
  match P.underlying t, len, cap with
  | some (.slice elem), .int _ l, .int _ c => match P.info? elem with
    | some e => match e.zero with
      | some z => 0 ≤ l ∧ l ≤ c ∧ c < 2 ^ 62 ∧ e.bytes * c ≤ 2 ^ 48 ∧ ∀ b, H b = none → K (.slice (some ⟨b, 0, none⟩) l.toNat c.toNat) (H.put b (.cells (zeroRow z.cells (c.toNat * e.size)) elem (0, 0)))
      | none => False
    | none => False
  | _, _, _ => False
/-- execOp, with its arguments as lists. -/
def execL (ρ : Operand → Value) (o : Oper) : Sem Next :=
  match o.op with
  | .build t parts => do pure (.value (← Instr.build t (parts.toList.map fun (i, x) => (i, ρ x)).toArray))
  | .buildSlice t len parts => do pure (.value (← Instr.buildSlice t len (parts.toList.map fun (i, x) => (i, ρ x)).toArray))
  | .makeFunc fn first captured => do pure (.value (← Instr.makeFunc fn (first.toList.map ρ).toArray (captured.toList.map ρ).toArray))
  | .call { callee := .builtin b, args, argTypes } => builtin b argTypes o.type (args.toList.map fun | .const _ => true | _ => false).toArray (args.toList.map ρ).toArray
  | _ => execOp ρ o

/-- What needs no memory, run. -/
def totRun (P : Program) (o : Oper) (cur : Option (Nat × Bool)) (s : NState) (F : Value → NState → Prop) : Prop := onlyIf (opReady s.e cur o) (totN P (execL (s.e.rho cur) o) fun v => F v s)
/-- The run of what has no form of its own. -/
def restN (P : Program) (ord : Nat → Nat → Bool) (i : Nat) (o : Oper) (cur : Option (Nat × Bool)) (s : NState) (F : Value → NState → Prop) : Prop :=
  match totalOp P o.op with
  | true => totRun P o cur s F
  | false => match o.op.cls with
      | .no => False
      | .rd => match o.op with
        | .lookup _ _ _ _ | .call _ => onlyIf (opReady s.e cur o) (∃ v, (execL (s.e.rho cur) o).rdH P s.H = some (.value v) ∧ snapsAnd ord i (fun H => (execL (s.e.rho cur) o).rdH P H = some (.value v)) (exOf P o.type v fun u => F u { s with reads := (i, fun H => (execL (s.e.rho cur) o).rdH P H = some (.value u)) :: s.reads }) s.snaps)
        | _ => totRun P o cur s F
      | .al => onlyIf (opReady s.e cur o) (match (execL (s.e.rho cur) o).alH P with
        | some (ob, f) => ∀ b, match f b with
          | some (.value v) => s.H b = none → F v { s with H := s.H.put b ob }
          | _ => False
        | none => False)
      | .ef => onlyIf (opReady s.e cur o) ((execL (s.e.rho cur) o).exH P s.H (nextP P fun v H' => readsAnd ord i H' (match o.dst with
          | none => F v { s with H := H', snaps := (i, s.H) :: s.snaps }
          | some _ => exOf P o.type v fun u => F u { s with H := H', snaps := (i, s.H) :: s.snaps }) s.reads))

/-- One operation's run. -/
def execN (P : Program) (ord : Nat → Nat → Bool) (i : Nat) (o : Oper) (cur : Option (Nat × Bool)) (s : NState) (F : Value → NState → Prop) : Prop :=
  match o.op with
  | .pick c a b =>
    match s.e.opd cur c with
    | some (.bool x) => onlyIf (s.e.there a && s.e.there b) (match pickN x (s.e.rdPick cur c true a) (s.e.rdPick cur c false b) with
      | some v => F v s
      | none => False)
    | _ => False
  | .indexAddr t x ix => onlyIf (opReady s.e cur o) (idxN P t (s.e.rho cur x) (s.e.rho cur ix) fun v => F v s)
  | .slice t x lo hi mx => onlyIf (opReady s.e cur o) (slN P t (s.e.rho cur x) (lo.map (s.e.rho cur)) (hi.map (s.e.rho cur)) (mx.map (s.e.rho cur)) fun v => F v s)
  | .binOp op t x y _ => match op with
    | .quo => onlyIf (opReady s.e cur o) (divN .quo (s.e.rho cur x) (s.e.rho cur y) fun v => F v s)
    | .rem => onlyIf (opReady s.e cur o) (divN .rem (s.e.rho cur x) (s.e.rho cur y) fun v => F v s)
    | .shl => match isConst y with
      | true => totRun P o cur s F
      | false => onlyIf (opReady s.e cur o) (shN .shl (s.e.rho cur x) (s.e.rho cur y) fun v => F v s)
    | .shr => match isConst y with
      | true => totRun P o cur s F
      | false => onlyIf (opReady s.e cur o) (shN .shr (s.e.rho cur x) (s.e.rho cur y) fun v => F v s)
    | .eql => onlyIf (opReady s.e cur o) (eqN P false t (s.e.rho cur x) (s.e.rho cur y) (totRun P o cur s F) fun v => F v s)
    | .neq => onlyIf (opReady s.e cur o) (eqN P true t (s.e.rho cur x) (s.e.rho cur y) (totRun P o cur s F) fun v => F v s)
    | _ => totRun P o cur s F
  | .load t a => onlyIf (opReady s.e cur o) (exVal (zeroOf P t) fun v => ldAt P s.H t (s.e.rho cur a) v ∧ snapsAnd ord i (fun H => ldAt P H t (s.e.rho cur a) v) (F v { s with reads := (i, fun H => ldAt P H t (s.e.rho cur a) v) :: s.reads }) s.snaps)
  | .store t a v => onlyIf (opReady s.e cur o) (stN P s.H t (s.e.rho cur a) (s.e.rho cur v) fun H' => readsAnd ord i H' (F undef { s with H := H', snaps := (i, s.H) :: s.snaps }) s.reads)
  | .call { callee := .value (.func f), args, .. } => onlyIf (opReady s.e cur o && entersB P f) (CallP P f (args.toList.map (s.e.rho cur)).toArray s.H fun v H' => readsAnd ord i H' (match o.dst with
      | none => F v { s with H := H', snaps := (i, s.H) :: s.snaps }
      | some _ => exOf P o.type v fun u => F u { s with H := H', snaps := (i, s.H) :: s.snaps }) s.reads)
  | .nilCheck x => onlyIf (opReady s.e cur o) (nilN (s.e.rho cur x) (totRun P o cur s F) fun v => F v s)
  | .fieldAddr t x f => onlyIf (opReady s.e cur o) (fldN P t (s.e.rho cur x) f fun v => F v s)
  | .build t parts => onlyIf (opReady s.e cur o) (buildN P t (parts.toList.map fun (i, x) => (i, s.e.rho cur x)) fun v => F v s)
  | .buildSlice t len parts => onlyIf (opReady s.e cur o) (rowN P s.H t len (parts.toList.map fun (i, x) => (i, s.e.rho cur x)) fun v H' => F v { s with H := H' })
  | .makeSlice t l c => onlyIf (opReady s.e cur o) (mkN P s.H t (s.e.rho cur l) (s.e.rho cur c) fun v H' => readsAnd ord i H' (F v { s with H := H', snaps := (i, s.H) :: s.snaps }) s.reads)
  | .call { callee := .builtin .append, args, argTypes } => match args.toList, argTypes.toList with
    | [a, x], [t, t2] => onlyIf (opReady s.e cur o) (appN P s.H t t2 (s.e.rho cur a) (s.e.rho cur x) fun v H' => readsAnd ord i H' (F v { s with H := H', snaps := (i, s.H) :: s.snaps }) s.reads)
    | _, _ => False
  | .call { callee := .value (.tmp t), args, .. } => match s.e.rho cur (.tmp t) with
    | .func (.func g) first cap => onlyIf (opReady s.e cur o && entersB P g) (CallP P g ((first.toList ++ args.toList.map (s.e.rho cur) ++ cap.toList).toArray) s.H fun v H' => readsAnd ord i H' (match o.dst with
      | none => F v { s with H := H', snaps := (i, s.H) :: s.snaps }
      | some _ => exOf P o.type v fun u => F u { s with H := H', snaps := (i, s.H) :: s.snaps }) s.reads)
    | _ => restN P ord i o cur s F
  | _ => restN P ord i o cur s F

/-- A guard is decided. F is told what it holds: nothing, if it is no bool. -/
def decideN (s : NState) (g : Nat) (F : Option Bool → NState → Prop) : Prop :=
  let set (s : NState) (b : Bool) : NState := s.put (some g) { v := .bool b, g := none, lit := true }
  match s.e g with
  | some { v := .bool b, g := none, .. } => bCase b (F (some true) (set s true)) (F (some false) (set s false))
  | some { v := .bool b, g := some (g2, w2), .. } =>
    match s.e g2 with
    | some { v := .bool b2, g := none, .. } =>
      let set2 (b : Bool) : NState := s.put (some g2) { v := .bool b, g := none, lit := true }
      bCase b2
        (bCase w2 (bCase b (F (some true) (set (set2 true) true)) (F (some false) (set (set2 true) false))) (F none (set2 true)))
        (bCase w2 (F none (set2 false)) (bCase b (F (some true) (set (set2 false) true)) (F (some false) (set (set2 false) false))))
    | _ => False
  | some { v := .tuple _, g := none, .. } => F none s
  | _ => False

/-- A value, its form ahead. -/
def forceV (v : Value) (K : Value → Prop) : Prop :=
  match v with
  | .bool b => K (.bool b)
  | .int k n => K (.int k n)
  | .string s => K (.string s)
  | .pointer a => K (.pointer a)
  | .slice a l c => K (.slice a l c)
  | v => K v
theorem forceV_iff {v : Value} {K : Value → Prop} : forceV v K ↔ K v := by cases v <;> exact Iff.rfl
def forceT (P : Program) (t : TypeId) (v : Value) (K : Value → Prop) : Prop :=
  match P.underlying t with
  | some .bool => forceV v K
  | some (.int _) => forceV v K
  | some .string => forceV v K
  | some (.pointer _) => forceV v K
  | some (.slice _) => forceV v K
  | _ => K v
theorem forceT_iff {P : Program} {t : TypeId} {v : Value} {K : Value → Prop} : forceT P t v K ↔ K v := by
  unfold forceT
  split <;> first | exact forceV_iff | exact Iff.rfl

def guardTmp (ops : Array Oper) (j : Nat) : Option Nat := (ops[j]?).bind (·.dst)

def stepN (P : Program) (n : Nat) (ops : Array Oper) (ord : Nat → Nat → Bool) (i : Nat) (G : NState → Prop) (s : NState) : Prop :=
  match ops[i]? with
  | none => False
  | some o => onlyIf (dstOk n o.dst && dFree s.gs o.dst) (
    match o.guard with
    | none => execN P ord i o none s fun v s' => forceT P o.type v fun v => G (s'.put o.dst { v, g := none, lit := false })
    | some (j, want) =>
      match guardTmp ops j with
      | none => False
      | some g =>
        match totalOp P o.op && dFree [g] o.dst && (match s.e g with | some x => !x.lit | none => false) with
        | true => execN P ord i o (some (g, want)) { s with gs := g :: s.gs } fun v s' => forceT P o.type v fun v => G (s'.put o.dst { v, g := some (g, want), lit := false })
        | false => decideN s g fun ob s1 =>
          match ob with
          | some b => bCase (beqB b want) (execN P ord i o none s1 fun v s' => forceT P o.type v fun v => G (s'.put o.dst { v, g := none, lit := false })) (G (s1.put o.dst { v := undef, g := none, lit := false }))
          | none => G (s1.put o.dst { v := undef, g := none, lit := false }))

def runNs (P : Program) (n : Nat) (ops : Array Oper) (ord : Nat → Nat → Bool) (K : CEnv → PHeap → Prop) : List Nat → NState → Prop
  | [], s => K s.e.strip s.H
  | i :: r, s => stepN P n ops ord i (runNs P n ops ord K r) s
end Go
