/- Abstract states: the run of a function's code over them, as a statement to be proved. -/
import Derived.Test.YtkcoepeeamooiaaAb2
import Derived.Laws.BytesArg
import Derived.Orders
set_option linter.unusedVariables false
set_option linter.unusedSimpArgs false
namespace Go.Ab
open Go

inductive TK where
  | int (k : IntKind)
  | bool
  | str
  | slice (e : TypeId)
  | array (n : Nat) (e : TypeId)
  | struct (fs : List (Nat × TypeId × Nat))
  | ptr (e : TypeId)
  | func
  | other
structure TI where
  k : TK
  size : Nat
  bytes : Nat
  zero : List AV
def TK.agg : TK → Bool
  | .array .. | .struct _ => true
  | _ => false

def const1 : Value → AV
  | .int k n => .d (.int k n)
  | .bool b => .d (.bool b)
  | .string s => .d (.str s)
  | .slice none 0 0 => .nils
  | .pointer none => .nilp
  | .nilFunc => .nilf
  | .tuple #[] => .tup []
  | _ => .top
def constAV : Value → AV
  | .agg cs => .agg (cs.toList.map const1)
  | v => const1 v

def TK.of (P : Program) : TypeDesc → TK
  | .int k => .int k
  | .bool => .bool
  | .string => .str
  | .slice e => .slice e
  | .array n e => .array n e
  | .struct fs => if fs.all (fun f => (P.info? f.type).isSome && P.cellsOf f.type != 0) then .struct (fs.toList.map fun f => (f.offset, f.type, P.cellsOf f.type)) else .other
  | .pointer e => .ptr e
  | .func .. => .func
  | _ => .other
def tyOf (P : Program) (t : TypeId) : Option TI :=
  match P.info? t, P.underlying t with
  | some i, some d => match i.zero with
    | some z => match TK.of P d with
      | .other => none
      | k => if z.cells.size = i.size then some { k := k, size := i.size, bytes := i.bytes, zero := z.cells.toList.map const1 } else none
    | none => none
  | _, _ => none
/-- May it be called, as a function with a body? -/
def entry (P : Program) (f : FuncId) : Bool :=
  match P.funcs[f]? with
  | some fn => fn.body.isSome && fn.name != "runtime.NumGoroutine"
  | none => false

/-- One of two, by a bool. -/
abbrev bcase (b : Bool) (A B : Prop) : Prop := @Bool.rec (fun _ => Prop) B A b
theorem bsplit {b : Bool} {A B : Prop} (h1 : b = true → A) (h2 : b = false → B) : @Bool.rec (fun _ => Prop) B A b := by cases b; exact h2 rfl; exact h1 rfl

def geta (fr : Fr) (t : Nat) : AV := fr.getD t (.tup [])
def aeval (fr : Fr) : Operand → AV
  | .tmp t => geta fr t
  | .const v => constAV v
  | .func f => .fn f []
  | .global _ => .top

def AV.cells? : AV → Option (List AV)
  | .d (.agg cs) => some (cs.map .d)
  | .agg cs => some cs
  | .top => none
  | a => some [a]
def AV.one : AV → Bool
  | .d x => x.one
  | .agg _ | .tup _ | .top => false
  | _ => true
mutual
def AV.toD : AV → Option D
  | .d x => some x
  | .nils => some (.sl (.gen 0 []))
  | .full l => some (.sl l)
  | .app _ l => some (.sl l)
  | .agg cs => (toDs cs).map .agg
  | _ => none
def toDs : List AV → Option (List D)
  | [] => some []
  | c :: cs => match c.toD, toDs cs with
    | some x, some xs => some (x :: xs)
    | _, _ => none
end
def AV.toL : AV → Option L
  | .d (.sl l) => some l
  | .nils => some (.gen 0 [])
  | .full l => some l
  | .app _ l => some l
  | _ => none
def intsOf (k : IntKind) : List AV → Option (List Int)
  | [] => some []
  | .d (.int k' n) :: cs => if k = k' then (intsOf k cs).map (n :: ·) else none
  | _ => none
def rowsOf (s : Nat) : Nat → List D → List (List D)
  | 0, _ => []
  | n + 1, cs => cs.take s :: rowsOf s n (cs.drop s)
def mkL (i : TI) (n : Nat) (cs : List AV) : Option L :=
  match i.k with
  | .int k => if i.size = 1 then (intsOf k cs).map (.ints k) else none
  | _ => match toDs cs with
    | some ds => if ds.all D.one then some (.gen i.size (rowsOf i.size n ds)) else none
    | none => none
def setAll : List AV → Nat → List AV → List AV
  | l, _, [] => l
  | l, o, c :: cs => setAll (l.set o c) (o + 1) cs
def fillx (place : Nat → Option (Nat × Nat)) : List AV → List (Nat × AV) → Option (List AV)
  | cells, [] => some cells
  | cells, (i, v) :: rest => match place i, v.cells? with
    | some (off, size), some cs => if cs.length = size ∧ off + size ≤ cells.length then fillx place (setAll cells off cs) rest else none
    | _, _ => none
def placeS (fs : List (Nat × TypeId × Nat)) (i : Nat) : Option (Nat × Nat) := (fs[i]?).map fun f => (f.1, f.2.2)
def rep (z : List AV) : Nat → List AV
  | 0 => []
  | n + 1 => z ++ rep z n

def L.sub (l : L) (lo hi : Option Nat) : L :=
  match l, lo, hi with
  | .ints k xs, none, none => .ints k xs
  | .ints k xs, some a, none => .ints k (xs.drop a)
  | .ints k xs, none, some b => .ints k (xs.take b)
  | .ints k xs, some a, some b => .ints k ((xs.take b).drop a)
  | .gen s xs, none, none => .gen s xs
  | .gen s xs, some a, none => .gen s (xs.drop a)
  | .gen s xs, none, some b => .gen s (xs.take b)
  | .gen s xs, some a, some b => .gen s ((xs.take b).drop a)
/-- Two lists behind one another; rows of so many cells. -/
def L.app (s : Nat) : L → L → Option L
  | .ints k a, .ints k' b => if k = k' ∧ s = 1 then some (.ints k (a ++ b)) else none
  | .ints k a, .gen _ [] => if s = 1 then some (.ints k a) else none
  | .gen _ [], .ints k b => if s = 1 then some (.ints k b) else none
  | .gen _ [], .gen s' ys => if s = s' ∨ ys = [] then some (.gen s ys) else none
  | .gen s' xs, .gen s'' ys => if s = s' ∧ (s = s'' ∨ ys = []) then some (.gen s (xs ++ ys)) else none
  | _, _ => none

def ibits (op : BinOp) (k : IntKind) (x y : Int) : Int :=
  k.wrap (match op with
    | .and => (BitVec.ofInt k.bits x &&& BitVec.ofInt k.bits y).toNat
    | .or => (BitVec.ofInt k.bits x ||| BitVec.ofInt k.bits y).toNat
    | .xor => (BitVec.ofInt k.bits x ^^^ BitVec.ofInt k.bits y).toNat
    | _ => (BitVec.ofInt k.bits x &&& ~~~ BitVec.ofInt k.bits y).toNat)
def binx (op : BinOp) (x y : AV) (K : AV → Prop) : Prop :=
  match x, y with
  | .d (.int k a), .d (.int k' b) =>
    match op with
    | .shl => 0 ≤ b ∧ K (.d (.int k (k.wrap (a * 2 ^ (min b.toNat k.bits)))))
    | .shr => 0 ≤ b ∧ K (.d (.int k (a.fdiv (2 ^ (min b.toNat k.bits)))))
    | _ => if k = k' then (match op with
      | .add => K (.d (.int k (k.wrap (a + b))))
      | .sub => K (.d (.int k (k.wrap (a - b))))
      | .mul => K (.d (.int k (k.wrap (a * b))))
      | .quo => b ≠ 0 ∧ K (.d (.int k (k.wrap (a.tdiv b))))
      | .rem => b ≠ 0 ∧ K (.d (.int k (a.tmod b)))
      | .and => K (.d (.int k (ibits .and k a b)))
      | .or => K (.d (.int k (ibits .or k a b)))
      | .xor => K (.d (.int k (ibits .xor k a b)))
      | .andNot => K (.d (.int k (ibits .andNot k a b)))
      | .eql => K (.d (.bool (decide (a = b))))
      | .neq => K (.d (.bool (!decide (a = b))))
      | .lss => K (.d (.bool (decide (a < b))))
      | .leq => K (.d (.bool (decide (a ≤ b))))
      | .gtr => K (.d (.bool (decide (b < a))))
      | .geq => K (.d (.bool (decide (b ≤ a))))
      | _ => False) else False
  | .d (.str a), .d (.str b) => match op with
    | .eql => K (.d (.bool (a.toList == b.toList)))
    | .neq => K (.d (.bool (!(a.toList == b.toList))))
    | _ => False
  | _, _ => False
/-- '==' of two values that are not both numbers or both texts, by their type. -/
def eqx (t : TI) (x y : AV) (K : Bool → Prop) : Prop :=
  match t.k, x, y with
  | .bool, .d (.bool a), .d (.bool b) => K (a == b)
  | .ptr _, .nilp, .nilp => K true
  | .ptr _, .nilp, .ptr _ _ => K false
  | .ptr _, .ptr _ _, .nilp => K false
  | _, _, _ => False
/-- '==' of two rows of whole numbers. -/
def AV.aggc? : AV → Option (List AV)
  | .d (.agg cs) => some (cs.map .d)
  | .agg cs => some cs
  | _ => none
def eqa (P : Program) (t : TypeId) (ie : Option TI) (n : Nat) (x y : AV) (K : Bool → Prop) : Prop :=
  match ie with
  | some { k := .int k, size := s, .. } => (match x.aggc?, y.aggc? with
    | some cs, some ds => (match intsOf k cs, intsOf k ds with
      | some a, some b => (P.eqGuardType P.depth t = false ∧ s = 1 ∧ a.length = n ∧ b.length = n) ∧ K (decide (a = b))
      | _, _ => False)
    | _, _ => False)
  | _ => False
/-- An operation on two values. -/
def binv (P : Program) (ty : TypeId → Option TI) (op : BinOp) (t : TypeId) (x y : AV) (K : AV → Prop) : Prop :=
  match x, y with
  | .d (.int k a), .d (.int k' b) => binx op (.d (.int k a)) (.d (.int k' b)) fun r => K r
  | .d (.str a), .d (.str b) => binx op (.d (.str a)) (.d (.str b)) fun r => K r
  | u, v => (match op, ty t with
    | .eql, some { k := .array n e, .. } => eqa P t (ty e) n u v fun r => K (.d (.bool r))
    | .neq, some { k := .array n e, .. } => eqa P t (ty e) n u v fun r => K (.d (.bool !r))
    | .eql, some i => eqx i u v fun r => K (.d (.bool r))
    | .neq, some i => eqx i u v fun r => K (.d (.bool !r))
    | _, _ => False)
def bounds (n : Nat) (lo hi : Option AV) (K : Option Nat → Option Nat → Prop) : Prop :=
  match lo, hi with
  | none, none => K none none
  | some (.d (.int _ a)), none => (0 ≤ a ∧ a ≤ n) ∧ K (some a.toNat) none
  | none, some (.d (.int _ b)) => (0 ≤ b ∧ b ≤ n) ∧ K none (some b.toNat)
  | some (.d (.int _ a)), some (.d (.int _ b)) => (0 ≤ a ∧ a ≤ b ∧ b ≤ n) ∧ K (some a.toNat) (some b.toNat)
  | _, _ => False

def lenL (l : L) (K : Nat → Prop) : Prop := match l with | .ints _ xs => K xs.length | .gen _ xs => K xs.length
theorem lenL_eq (l : L) (K : Nat → Prop) : lenL l K = K l.len := by cases l <;> rfl
def lenx (x : AV) (K : AV → Prop) : Prop :=
  match x with
  | .d (.sl l) | .full l | .app _ l => lenL l fun n => K (.d (.int .i64 n))
  | .nils => K (.d (.int .i64 0))
  | .os _ _ _ n => K (.d (.int .i64 n))
  | _ => False
def foldx (mx : Bool) : AV → List AV → (AV → Prop) → Prop
  | x, [], K => K x
  | .d (.int k a), .d (.int k' b) :: rest, K => if k = k' then foldx mx (.d (.int k (if mx then max a b else min a b))) rest K else False
  | _, _, _ => False

/-- A table of types. -/
def tfind (t : Nat) : List (Nat × TI) → Option TI
  | [] => none
  | x :: r => match Nat.beq x.1 t with
    | true => some x.2
    | false => tfind t r
theorem tfind_ok {P : Program} {t : Nat} : ∀ {l : List (Nat × TI)} {i : TI}, (∀ x ∈ l, tyOf P x.1 = some x.2) → tfind t l = some i → tyOf P t = some i
  | [], i, _, h => by cases h
  | x :: r, i, hl, h => by
    unfold tfind at h
    cases hb : Nat.beq x.1 t with
    | true => rw [hb] at h; injection h with h; subst h; have := Nat.eq_of_beq_eq_true hb; subst this; exact hl x (by simp)
    | false => rw [hb] at h; exact tfind_ok (fun y hy => hl y (by simp [hy])) h

/-! ### What follows brings a value into form ahead of going on: each is 'K' of what it is handed. -/
def forceL (l : L) (K : L → Prop) : Prop := match l with | .ints k x => K (.ints k x) | .gen s x => K (.gen s x)
def forceD (x : D) (K : D → Prop) : Prop :=
  match x with
  | .int k n => K (.int k n)
  | .bool b => K (.bool b)
  | .str s => K (.str s)
  | .sl l => K (.sl l)
  | .agg cs => K (.agg cs)
def forceA (v : AV) (K : AV → Prop) : Prop :=
  match v with
  | .d x => forceD x fun x => K (.d x)
  | .nils => K .nils
  | .full l => K (.full l)
  | .app g l => K (.app g l)
  | .ptr i o => K (.ptr i o)
  | .rp cs => K (.rp cs)
  | .os i o s n => K (.os i o s n)
  | .fn f cs => K (.fn f cs)
  | .agg cs => K (.agg cs)
  | .tup cs => K (.tup cs)
  | .nilp => K .nilp
  | .nilf => K .nilf
  | .top => K .top
def seqA : List AV → (List AV → Prop) → Prop
  | [], K => K []
  | a :: l, K => forceA a fun a => seqA l fun l => K (a :: l)
def seqD : List D → (List D → Prop) → Prop
  | [], K => K []
  | a :: l, K => forceD a fun a => seqD l fun l => K (a :: l)
def lenF {α : Type} : List α → Nat → (Nat → Prop) → Prop
  | [], n, K => K n
  | _ :: l, n, K => lenF l (n + 1) K
def snocF {α : Type} : List α → α → (List α → Prop) → Prop
  | [], x, K => K [x]
  | y :: l, x, K => snocF l x fun l => K (y :: l)
def setF {α : Type} : List α → Nat → α → (List α → Prop) → Prop
  | [], _, _, K => K []
  | _ :: l, 0, x, K => K (x :: l)
  | y :: l, n + 1, x, K => setF l n x fun l => K (y :: l)
def seqH : Hp → (Hp → Prop) → Prop
  | [], K => K []
  | none :: l, K => seqH l fun l => K (none :: l)
  | some B :: l, K => seqA B.cells fun cs => seqH l fun l => K (some ⟨B.ty, cs⟩ :: l)
theorem forceL_eq (l : L) (K : L → Prop) : forceL l K = K l := by cases l <;> rfl
theorem forceD_eq (x : D) (K : D → Prop) : forceD x K = K x := by cases x <;> simp [forceD]
theorem forceA_eq (v : AV) (K : AV → Prop) : forceA v K = K v := by cases v <;> simp [forceA, forceD_eq]
theorem seqA_eq (l : List AV) (K : List AV → Prop) : seqA l K = K l := by
  induction l generalizing K with
  | nil => rfl
  | cons a l ih => simp [seqA, forceA_eq, ih]
theorem seqD_eq (l : List D) (K : List D → Prop) : seqD l K = K l := by
  induction l generalizing K with
  | nil => rfl
  | cons a l ih => simp [seqD, forceD_eq, ih]
theorem lenF_eq {α : Type} (l : List α) (n : Nat) (K : Nat → Prop) : lenF l n K = K (n + l.length) := by
  induction l generalizing n with
  | nil => rfl
  | cons a l ih => simp only [lenF, ih, List.length_cons]; congr 1; omega
theorem snocF_eq {α : Type} (l : List α) (x : α) (K : List α → Prop) : snocF l x K = K (l ++ [x]) := by
  induction l generalizing K with
  | nil => rfl
  | cons a l ih => simp [snocF, ih]
theorem setF_eq {α : Type} (l : List α) (n : Nat) (x : α) (K : List α → Prop) : setF l n x K = K (l.set n x) := by
  induction l generalizing n K with
  | nil => rfl
  | cons a l ih => cases n <;> simp [setF, ih]
theorem seqH_eq (l : Hp) (K : Hp → Prop) : seqH l K = K l := by
  induction l generalizing K with
  | nil => rfl
  | cons a l ih => cases a <;> simp [seqH, seqA_eq, ih]

/-- x[lo:hi:mx] -/
def slicex (ty : TypeId → Option TI) (n0 : Nat) (i : TI) (u : AV) (lo hi mx : Option AV) (fr : Fr) (H : Hp) (K : AV → Fr → Hp → Prop) : Prop :=
  match i.k with
  | .array n e => (match ty e, u, lo, hi, mx with
    | some ie, .ptr id off, none, none, none => (match H[id]? with
      | some (some B) => (match mkL ie n ((B.cells.drop off).take (n * ie.size)) with
        | some l => (n0 ≤ id ∧ off + n * ie.size ≤ B.cells.length ∧ 0 < ie.size ∧ n ≤ 65536) ∧ seqA (weaks no (one id) fr) fun fr' => seqH ((weakH no (one id) H).set id none) fun H' => K (.full l) fr' H'
        | none => False)
      | _ => False)
    | some ie, .rp cs, none, none, none => (match mkL ie n ((cs.take (n * ie.size)).map .d) with
      | some l => (n * ie.size ≤ cs.length ∧ 0 < ie.size ∧ n ≤ 65536) ∧ K (.full l) fr H
      | none => False)
    | _, _, _, _, _ => False)
  | .slice e => (match ty e, u.toL with
    | some ie, some l => ie.size = l.size ∧ (match mx with
      | none => lenL l fun n => bounds n lo hi fun a b => forceL (l.sub a b) fun l => K (.d (.sl l)) fr H
      | some (.d (.int _ c)) => (match hi with
        | some (.d (.int k b)) => b = c ∧ lenL l fun n => bounds n lo (some (.d (.int k b))) fun a b => forceL (l.sub a b) fun l => K (.full l) fr H
        | _ => False)
      | _ => False)
    | _, _ => False)
  | _ => False

/-- One operation. -/
def opx (P : Program) (ty : TypeId → Option TI) (tb n0 : Nat) (o : Oper) (fr : Fr) (H : Hp) (K : AV → Fr → Hp → Prop) : Prop :=
  match o.op with
  | .move x | .assign x => K (aeval fr x) fr H
  | .pick c a b => match aeval fr c with
    | .d (.bool t) => bcase t (K (aeval fr a) fr H) (K (aeval fr b) fr H)
    | _ => False
  | .alloc e => match ty e with
    | some i => lenF H 0 fun n => snocF H (some ⟨e, i.zero⟩) fun H' => K (.ptr n 0) fr H'
    | none => False
  | .box e x => match (aeval fr x).cells? with
    | some cs => seqA cs fun cs => lenF H 0 fun n => snocF H (some ⟨e, cs⟩) fun H' => K (.ptr n 0) fr H'
    | none => False
  | .build t parts => match ty t with
    | some { k := .struct fs, zero := z, .. } => (match fillx (placeS fs) z (parts.toList.map fun x => (x.1, aeval fr x.2)) with
      | some cs => seqA cs fun cs => K (.agg cs) fr H
      | none => False)
    | some { k := .array _ e, zero := z, .. } => (match ty e with
      | some ie => (match fillx (fun i => some (i * ie.size, ie.size)) z (parts.toList.map fun x => (x.1, aeval fr x.2)) with
        | some cs => seqA cs fun cs => K (.agg cs) fr H
        | none => False)
      | none => False)
    | _ => False
  | .buildSlice t n parts => match ty t with
    | some { k := .slice e, .. } => (match ty e with
      | some ie => (match fillx (fun i => some (i * ie.size, ie.size)) (rep ie.zero n) (parts.toList.map fun x => (x.1, aeval fr x.2)) with
        | some cs => (match mkL ie n cs with
          | some l => (n * ie.size ≤ 65536 ∧ 0 < ie.size) ∧ K (.full l) fr H
          | none => False)
        | none => False)
      | none => False)
    | _ => False
  | .load t x => match ty t, aeval fr x with
    | some i, .ptr id off => (match H[id]? with
      | some (some B) => (match i.k.agg with
        | true => off + i.size ≤ B.cells.length ∧ seqA ((B.cells.drop off).take i.size) fun cs => K (.agg cs) fr H
        | false => (match B.cells[off]? with | some c => K c fr H | none => False))
      | _ => False)
    | some i, .rp cs => (match i.k.agg with
      | true => i.size ≤ cs.length ∧ seqD (cs.take i.size) fun cs => K (.d (.agg cs)) fr H
      | false => (match cs with | c :: _ => K (.d c) fr H | [] => False))
    | _, _ => False
  | .store t x v => match ty t, aeval fr x, (aeval fr v).cells? with
    | some i, .ptr id off, some cs => (match H[id]? with
      | some (some B) => (cs.length = i.size ∧ off + i.size ≤ B.cells.length ∧ cs.all AV.one = true) ∧ seqA (setAll B.cells off cs) fun cs => setF H id (some ⟨B.ty, cs⟩) fun H' => K (.tup []) fr H'
      | _ => False)
    | _, _, _ => False
  | .nilCheck x => match aeval fr x with
    | .ptr id off => K (.ptr id off) fr H
    | .rp cs => K (.rp cs) fr H
    | _ => False
  | .binOp op t x y _ => binv P ty op t (aeval fr x) (aeval fr y) fun r => K r fr H
  | .unOp op _ x => match op, aeval fr x with
    | .not, .d (.bool b) => K (.d (.bool !b)) fr H
    | .neg, .d (.int k n) => K (.d (.int k (k.wrap (0 - n)))) fr H
    | .xor, .d (.int k n) => K (.d (.int k (ibits .xor k (if k.signed then -1 else k.max) n))) fr H
    | _, _ => False
  | .convert t' t x => match ty t', ty t, aeval fr x with
    | some _, some { k := .int k, .. }, .d (.int _ n) => K (.d (.int k (k.wrap n))) fr H
    | some { k := .slice e, .. }, some { k := .str, .. }, u => (match ty e, u.toL with
      | some { k := .int .u8, .. }, some (.ints .u8 l) => K (.d (.str (strOfNums l))) fr H
      | _, _ => False)
    | _, _, _ => False
  | .makeFunc (.func f) first caps => if first.size = 0 then seqA (caps.toList.map (aeval fr)) fun cs => K (.fn f cs) fr H else False
  | .fieldAddr t x f => match ty t, aeval fr x with
    | some { k := .struct fs, .. }, .ptr id off => (match fs[f]? with | some p => K (.ptr id (off + p.1)) fr H | none => False)
    | some { k := .struct fs, .. }, .rp cs => (match fs[f]? with | some p => seqD (cs.drop p.1) fun cs => K (.rp cs) fr H | none => False)
    | _, _ => False
  | .indexAddr t x ix => match ty t, aeval fr x, aeval fr ix with
    | some { k := .slice e, .. }, .os id off s n, .d (.int _ i) => (match ty e with
      | some ie => (ie.size = s ∧ 0 ≤ i ∧ i < n) ∧ K (.ptr id (off + i.toNat * s)) fr H
      | none => False)
    | some { k := .slice e, .. }, u, .d (.int _ i) => (match ty e, u.toL with
      | some ie, some l => lenL l fun n => (ie.size = l.size ∧ 0 ≤ i ∧ i < n) ∧ seqD (l.row i.toNat) fun cs => K (.rp cs) fr H
      | _, _ => False)
    | some { k := .array n e, .. }, .ptr id off, .d (.int _ i) => (match ty e with
      | some ie => (0 ≤ i ∧ i < n) ∧ K (.ptr id (off + i.toNat * ie.size)) fr H
      | none => False)
    | _, _, _ => False
  | .slice t x lo hi mx => match ty t with
    | some i => slicex ty n0 i (aeval fr x) (lo.map (aeval fr)) (hi.map (aeval fr)) (mx.map (aeval fr)) fr H K
    | none => False
  | .extract x i => match aeval fr x with
    | .tup vs => (match vs[i]? with | some v => K v fr H | none => False)
    | _ => False
  | .call { callee := .builtin .len, args := args, argTypes := ts } => match args[0]?, ts[0]? with
    | some x, some t => (match ty t with
      | some { k := .slice _, .. } => lenx (aeval fr x) fun r => K r fr H
      | some { k := .array n _, .. } => K (.d (.int .i64 n)) fr H
      | _ => False)
    | _, _ => False
  | .call { callee := .builtin .max, args := args, .. } => match args.toList.map (aeval fr) with
    | x :: rest => foldx true x rest fun r => K r fr H
    | [] => False
  | .call { callee := .builtin .min, args := args, .. } => match args.toList.map (aeval fr) with
    | x :: rest => foldx false x rest fun r => K r fr H
    | [] => False
  | .call { callee := .builtin .append, args := args, argTypes := ts } => match args.toList, ts.toList with
    | [s, x], [t, t'] => (match ty t, ty t' with
      | some { k := .slice e, .. }, some { k := .slice _, .. } => (match ty e, (aeval fr x).toL with
        | some ie, some m => (match aeval fr s with
          | .nils => (match L.app ie.size (.gen ie.size []) m with
            | some r => (r.len * ie.bytes ≤ 140737488355328 ∧ 0 < ie.size ∧ 0 < ie.bytes) ∧ K (.app (tb + o.dst.getD 0) r) fr H
            | none => False)
          | .full l => (match L.app ie.size l m with
            | some r => (r.len * ie.bytes ≤ 140737488355328 ∧ 0 < ie.size ∧ 0 < ie.bytes) ∧ K (.app (tb + o.dst.getD 0) r) fr H
            | none => False)
          | .app g l => (match L.app ie.size l m with
            | some r => (r.len * ie.bytes ≤ 140737488355328 ∧ 0 < ie.size ∧ 0 < ie.bytes) ∧ seqA (weaks (Go.Ab.one g) no fr) fun fr' => seqH (weakH (Go.Ab.one g) no H) fun H' => K (.app (tb + o.dst.getD 0) r) fr' H'
            | none => False)
          | _ => False)
        | _, _ => False)
      | _, _ => False)
    | _, _ => False
  | .call { callee := .value f, args := args, .. } => match aeval fr f with
    | .fn g caps => entry P g = true ∧ seqA (args.toList.map (aeval fr) ++ caps) fun as => CallP P g as fr H K
    | _ => False
  | _ => False

def putx (fr : Fr) (dst : Option Tmp) (v : AV) (K : Fr → Prop) : Prop :=
  match dst with
  | some t => setF fr t v K
  | none => K fr
/-- Is it to be carried out? -/
def guardx (ops : Array Oper) (o : Oper) (fr : Fr) (yes skip : Fr → Prop) : Prop :=
  match o.guard with
  | none => yes fr
  | some (j, want) => match (ops[j]?).bind (·.dst) with
    | some t => (match geta fr t with
      | .d (.bool b) => bcase b (bcase want (setF fr t (.d (.bool true)) yes) (setF fr t (.d (.bool true)) skip)) (bcase want (setF fr t (.d (.bool false)) skip) (setF fr t (.d (.bool false)) yes))
      | .tup _ => skip fr
      | _ => False)
    | none => skip fr
def rx (P : Program) (ty : TypeId → Option TI) (tb n0 : Nat) (ops : Array Oper) : List Oper → Fr → Hp → (Fr → Hp → Prop) → Prop
  | [], fr, H, K => K fr H
  | o :: rest, fr, H, K => guardx ops o fr (fun fr => opx P ty tb n0 o fr H fun v fr' H' => forceA v fun v => putx fr' o.dst v fun fr' => rx P ty tb n0 ops rest fr' H' K) (fun fr => putx fr o.dst (.tup []) fun fr' => rx P ty tb n0 ops rest fr' H K)

/-- Weaker values. -/
inductive LE : AV → AV → Prop
  | refl (a : AV) : LE a a
  | top (a : AV) : LE a .top
  | nil_d (l : L) (h : l.len = 0) : LE .nils (.d (.sl l))
  | nil_full (l : L) (h : l.len = 0) : LE .nils (.full l)
  | nil_app (g : Nat) (l : L) (h : l.len = 0) : LE .nils (.app g l)
  | full_d (l : L) : LE (.full l) (.d (.sl l))
  | full_app (g : Nat) (l : L) : LE (.full l) (.app g l)
  | app_d (g : Nat) (l : L) : LE (.app g l) (.d (.sl l))
  | emp (l l' : L) (h : l.len = 0) (h' : l'.len = 0) : LE (.d (.sl l)) (.d (.sl l'))
  | agg_d (cs : List AV) (ds : List D) (hl : cs.length = ds.length) (h : ∀ i (h1 : i < cs.length) (h2 : i < ds.length), LE cs[i] (.d ds[i])) : LE (.agg cs) (.d (.agg ds))
  | d_agg (ds : List D) : LE (.d (.agg ds)) (.agg (ds.map .d))
  | agg (cs ds : List AV) (hl : cs.length = ds.length) (h : ∀ i (h1 : i < cs.length) (h2 : i < ds.length), LE cs[i] ds[i]) : LE (.agg cs) (.agg ds)
  | tup (cs ds : List AV) (hl : cs.length = ds.length) (h : ∀ i (h1 : i < cs.length) (h2 : i < ds.length), LE cs[i] ds[i]) : LE (.tup cs) (.tup ds)
  | trans {a b c : AV} (h : LE a b) (k : LE b c) : LE a c
def LEs (as bs : List AV) : Prop := as.length = bs.length ∧ ∀ i (h1 : i < as.length) (h2 : i < bs.length), LE as[i] bs[i]
/-- A weaker heap: what stands behind the first so many blocks is forgotten. -/
inductive HLE : Hp → Hp → Prop
  | nil (H : Hp) : HLE H []
  | dead (x : Option Blk) (H H' : Hp) (h : HLE H H') : HLE (x :: H) (none :: H')
  | blk (B B' : Blk) (H H' : Hp) (ht : B.ty = B'.ty) (hc : LEs B.cells B'.cells) (h : HLE H H') : HLE (some B :: H) (some B' :: H')
def gone (H : Hp) (i : Nat) : Bool := match H[i]? with | some (some _) => false | _ => true
def cleanHB (tg rf : Nat → Bool) : Hp → Bool
  | [] => true
  | none :: H => cleanHB tg rf H
  | some B :: H => cleans tg rf B.cells && cleanHB tg rf H
def Weak (n0 : Nat) (fr : Fr) (H : Hp) (fr' : Fr) (H' : Hp) : Prop :=
  LEs fr fr' ∧ (H' = H ∨ (HLE H H' ∧ cleans no (gone H') fr' = true ∧ cleanHB no (gone H') H' = true ∧ ∀ i, i < n0 → gone H' i = true → gone H i = true))

/-! ### Regions whose order is drawn -/
def Hle (H H' : Hp) : Prop := ∀ (i : Nat) (B : Blk), H[i]? = some (some B) → H'[i]? = some (some B)
/-- What is ahead of each operation, as bits. -/
def masks : List Oper → List Nat → List Nat
  | [], acc => acc
  | o :: rest, acc => masks rest (acc ++ [o.after.toList.foldl (fun s e => if Region.binds .any e then s ||| 2 ^ e.on ||| acc.getD e.on 0 else s) 0])
def pureB (o : Oper) : Bool :=
  match o.op with
  | .move _ | .assign _ | .pick .. | .load .. | .nilCheck _ | .binOp .. | .unOp .. | .convert .. | .fieldAddr .. | .indexAddr .. | .extract .. | .makeFunc .. | .build .. | .buildSlice .. | .slice .. => true
  | .call { callee := .builtin .len, .. } | .call { callee := .builtin .max, .. } | .call { callee := .builtin .min, .. } | .call { callee := .value _, .. } => true
  | _ => false
def allocB (o : Oper) : Bool :=
  match o.op, o.guard with
  | .alloc _, none => true
  | _, _ => false
/-- May the two be carried out in either order? -/
def swapB (ops : Array Oper) (j i : Nat) : Bool :=
  match ops[j]?, ops[i]? with
  | some x, some y => x.apart ops y && pureB x && (pureB y || allocB y)
  | _, _ => false
def pairsB (ops : Array Oper) (ms : List Nat) : List Nat → Bool
  | [] => true
  | j :: rest => rest.all (fun i => i != j && ((ms.getD i 0).testBit j || (!(ms.getD j 0).testBit i && swapB ops j i))) && pairsB ops ms rest
/-- Is the order one of the region's, and any other as good? -/
def drawOK (ops : Array Oper) (π : List Nat) : Bool :=
  π.length == ops.size && π.all (· < ops.size) && (List.range ops.size).all (fun i => π.contains i) && ops.toList.zipIdx.all (fun x => x.1.after.toList.all fun e => !Region.binds .any e || e.on < x.2) && pairsB ops (masks ops.toList []) π
/-- Is it ordered against each other one? -/
def tight (ops : Array Oper) (i : Nat) : Bool :=
  let ms := masks ops.toList []
  (List.range ops.size).all fun j => j == i || (ms.getD i 0).testBit j || (ms.getD j 0).testBit i
def opd (P : Program) (ty : TypeId → Option TI) (tb n0 : Nat) (ops : Array Oper) (i : Nat) (o : Oper) (fr : Fr) (H : Hp) (K : AV → Fr → Hp → Prop) : Prop :=
  match o.op with
  | .call { callee := .value f, args := args, .. } => match aeval fr f with
    | .fn g caps => entry P g = true ∧ seqA (args.toList.map (aeval fr) ++ caps) fun as =>
        (∃ as' v, LEs as as' ∧ (∀ fr1 H1, Hle H H1 → CallP P g as' fr1 H1 fun r fr2 H2 => r = v ∧ fr2 = fr1 ∧ H2 = H1) ∧ K v fr H) ∨ (tight ops i = true ∧ CallP P g as fr H K)
    | _ => False
  | .slice t x _ _ _ => match ty t, aeval fr x with
    | some { k := .array .., .. }, .ptr .. => False
    | _, _ => opx P ty tb n0 o fr H K
  | _ => opx P ty tb n0 o fr H K
def stepd (P : Program) (ty : TypeId → Option TI) (tb n0 : Nat) (ops : Array Oper) (i : Nat) (o : Oper) (fr : Fr) (H : Hp) (K : Fr → Hp → Prop) : Prop :=
  guardx ops o fr (fun fr => opd P ty tb n0 ops i o fr H fun v fr' H' => forceA v fun v => putx fr' o.dst v fun fr' => K fr' H') (fun fr => putx fr o.dst (.tup []) fun fr' => K fr' H)
def rd (P : Program) (ty : TypeId → Option TI) (tb n0 : Nat) (ops : Array Oper) : List Nat → Fr → Hp → (Fr → Hp → Prop) → Prop
  | [], fr, H, K => K fr H
  | i :: rest, fr, H, K => match ops[i]? with
    | some o => stepd P ty tb n0 ops i o fr H fun fr H => rd P ty tb n0 ops rest fr H K
    | none => False
/-- The frame, where the block is only read from here on. -/
def frz (id : Nat) (ds : List D) : List AV → List AV
  | [] => []
  | .ptr i o :: fr => (if i = id then .rp (ds.drop o) else .ptr i o) :: frz id ds fr
  | v :: fr => v.weak no (one id) :: frz id ds fr
def frzx (ty : TypeId → Option TI) (n0 : Nat) : List Oper → Fr → Hp → (Fr → Hp → Prop) → Prop
  | [], fr, H, K => K fr H
  | o :: rest, fr, H, K => match o.op with
    | .slice t x none none none => (match ty t, aeval fr x with
      | some { k := .array .., .. }, .ptr id _ => (match H[id]? with
        | some (some B) => (match toDs B.cells with
          | some ds => (n0 ≤ id ∧ ds.all D.one = true) ∧ seqA (frz id ds fr) fun fr' => seqH ((weakH no (one id) H).set id none) fun H' => frzx ty n0 rest fr' H' K
          | none => False)
        | _ => False)
      | _, _ => frzx ty n0 rest fr H K)
    | _ => frzx ty n0 rest fr H K
def isMF (o : Oper) : Bool :=
  match o.op with
  | .makeFunc .. => true
  | _ => false
/-- Blocks that are only read from here on. -/
def frzIds (n0 : Nat) : List Nat → Fr → Hp → (Fr → Hp → Prop) → Prop
  | [], fr, H, K => K fr H
  | id :: ids, fr, H, K => match H[id]? with
    | some (some B) => (match toDs B.cells with
      | some ds => (n0 ≤ id ∧ ds.all D.one = true) ∧ seqA (frz id ds fr) fun fr' => seqH ((weakH no (one id) H).set id none) fun H' => frzIds n0 ids fr' H' K
      | none => False)
    | _ => False

/-- The run of code. -/
def ex (P : Program) (ty : TypeId → Option TI) (tb n0 : Nat) : Code → (Exit → Fr → Hp → Prop) → Fr → Hp → Prop
  | .skip, K, fr, H => K .normal fr H
  | .label _, K, fr, H => K .normal fr H
  | .region _ ops false, K, fr, H => match ops.toList.any isMF with
    | true => ∃ ids, frzIds n0 ids fr H fun fr H => rx P ty tb n0 ops ops.toList fr H (K .normal)
    | false => rx P ty tb n0 ops ops.toList fr H (K .normal)
  | .region _ ops true, K, fr, H => frzx ty n0 ops.toList fr H fun fr H => ∃ π, drawOK ops π = true ∧ rd P ty tb n0 ops π fr H (K .normal)
  | .seq a b, K, fr, H => ex P ty tb n0 a (fun e fr H => match e with | .normal => ex P ty tb n0 b K fr H | e => K e fr H) fr H
  | .cond c a b, K, fr, H => match aeval fr c with
    | .d (.bool t) => bcase t (ex P ty tb n0 a K fr H) (ex P ty tb n0 b K fr H)
    | _ => False
  | .block id b, K, fr, H => ex P ty tb n0 b (fun e fr H => match e with | .exit i => if i = id then K .normal fr H else K (.exit i) fr H | e => K e fr H) fr H
  | .loop b, K, fr, H => ∃ I : Nat → Fr → Hp → Prop, (∃ n fr' H', Weak n0 fr H fr' H' ∧ I n fr' H') ∧
      ∀ n fr H, I n fr H → ex P ty tb n0 b (fun e fr H => match e with | .normal => ∃ m fr' H', m < n ∧ Weak n0 fr H fr' H' ∧ I m fr' H' | e => K e fr H) fr H
  | .exit id, K, fr, H => K (.exit id) fr H
  | .scope b, K, fr, H => ex P ty tb n0 b (fun e fr H => match e with | .goto _ => False | e => K e fr H) fr H
  | .ret, K, fr, H => K .ret fr H
  | _, _, _, _ => False

def res1 (ty : TypeId → Option TI) (fr : Fr) (H : Hp) : ResultVar → Option AV
  | .tmp t => some (geta fr t)
  | .cell a t => match ty t, geta fr a with
    | some i, .ptr id off => (match H[id]? with
      | some (some B) => if i.k.agg then (if off + i.size ≤ B.cells.length then some (.agg ((B.cells.drop off).take i.size)) else none) else B.cells[off]?
      | _ => none)
    | _, _ => none
def resx (ty : TypeId → Option TI) (fr : Fr) (H : Hp) : List ResultVar → Option (List AV)
  | [] => some []
  | r :: rs => match res1 ty fr H r, resx ty fr H rs with
    | some v, some vs => some (v :: vs)
    | _, _ => none
/-- What a function leaves: what is not asked for is forgotten. -/
def leave (n0 : Nat) (Q : AV → Hp → Prop) (r : AV) (H : Hp) : Prop := ∃ r' H', Weak n0 [r] H [r'] H' ∧ Q r' H'
/-- A function's end. -/
def endx (ty : TypeId → Option TI) (fn : Func) (Q : AV → Hp → Prop) : Exit → Fr → Hp → Prop
  | .normal, fr, H | .ret, fr, H => match resx ty fr H fn.results.toList with
    | some vs => seqA vs fun vs => (match vs with | [v] => Q v H | vs => Q (.tup vs) H)
    | none => False
  | _, _, _ => False
end Go.Ab
