/- Abstract states over the model's memory: data as trees, local blocks as lists of cells; when a concrete world shows them; what a step may turn. -/
import Derived.WalkKit
import Derived.Scope
set_option linter.unusedVariables false
set_option linter.unusedSimpArgs false
namespace Go.Ab
open Go

mutual
/-- Data: what never turns any more. -/
inductive D where
  | int (k : IntKind) (n : Int)
  | bool (b : Bool)
  | str (s : ByteArray)
  | sl (l : L)
  | agg (cs : List D)
/-- What a slice holds: whole numbers, or rows of cells. -/
inductive L where
  | ints (k : IntKind) (l : List Int)
  | gen (s : Nat) (xs : List (List D))
end
instance : Inhabited D := ⟨.bool false⟩
instance : Inhabited L := ⟨.gen 0 []⟩

def L.elems : L → List (List D)
  | .ints k l => l.map fun x => [.int k x]
  | .gen _ xs => xs
def L.len : L → Nat
  | .ints _ l => l.length
  | .gen _ xs => xs.length
def L.size : L → Nat
  | .ints .. => 1
  | .gen s _ => s
def L.row : L → Nat → List D
  | .ints k l, i => [.int k (l.getD i 0)]
  | .gen _ xs, i => xs.getD i []
theorem L.len_elems (l : L) : l.elems.length = l.len := by cases l <;> simp [L.elems, L.len]
theorem L.row_elems (l : L) (i : Nat) (h : i < l.len) : l.elems[i]'(by rw [L.len_elems]; exact h) = l.row i := by
  cases l with
  | ints k l => simp [L.elems, L.row, L.len] at *; rw [List.getElem?_eq_getElem h]; rfl
  | gen s xs => simp [L.elems, L.row, L.len] at *; rw [List.getElem?_eq_getElem h]; rfl

/-- Values as a function's frame holds them. -/
inductive AV where
  | d (x : D)
  | nils
  | full (l : L)
  | app (g : Nat) (l : L)
  | ptr (id off : Nat)
  | rp (cs : List D)
  | os (id off s n : Nat)
  | fn (f : FuncId) (caps : List AV)
  | agg (cs : List AV)
  | tup (vs : List AV)
  | nilp
  | nilf
  | top
instance : Inhabited AV := ⟨.top⟩

structure Blk where
  ty : TypeId
  cells : List AV
abbrev Hp := List (Option Blk)
abbrev Fr := List AV

/-- The ghost state: which concrete block an abstract one is; which blocks are appended to (by which tag, and how far they are published), or are another's (no tag). -/
structure Gh where
  live : Nat → Option Nat
  own : Nat → Option (Option Nat × Nat)
def Gh.ok (γ : Gh) (b o : Nat) : Prop := (∀ i, γ.live i ≠ some b) ∧ ∀ t l, γ.own b = some (t, l) → o < l

/-- It takes one cell. -/
def D.one : D → Bool
  | .agg _ => false
  | _ => true
/-- A datum, in a world, as a value. -/
inductive RD (ok : Nat → Nat → Prop) (w : World) : D → Value → Prop
  | int (k : IntKind) (n : Int) : RD ok w (.int k n) (.int k n)
  | bool (b : Bool) : RD ok w (.bool b) (.bool b)
  | str (s : ByteArray) : RD ok w (.str s) (.string s)
  | agg (cs : List D) (vs : Array Value) (hl : cs.length = vs.size) (h : ∀ i (h1 : i < cs.length) (h2 : i < vs.size), RD ok w cs[i] vs[i]) : RD ok w (.agg cs) (.agg vs)
  | emp (l : L) (A : Option Addr) (cap : Nat) (hl : l.len = 0) : RD ok w (.sl l) (.slice A 0 cap)
  | row (l : L) (b o cap : Nat) (f : Nat → Nat → Value) (hc : l.len ≤ cap) (hm : cap ≤ maxLen) (hz : ∀ i, i < l.len → (l.row i).length = l.size) (ho : ∀ i j (_ : i < l.len) (hj : j < (l.row i).length), (l.row i)[j].one = true)
      (hcell : ∀ i j, i < l.len → j < l.size → ok b (o + (i * l.size + j)) ∧ w.cell? ⟨b, o + (i * l.size + j), none⟩ = some (f i j))
      (h : ∀ i j (_ : i < l.len) (hj : j < (l.row i).length), RD ok w (l.row i)[j] (f i j)) : RD ok w (.sl l) (.slice (some ⟨b, o, none⟩) l.len cap)

theorem RD.mono {ok ok' : Nat → Nat → Prop} {w w' : World} (hk : ∀ b o v, ok b o → w.cell? ⟨b, o, none⟩ = some v → ok' b o ∧ w'.cell? ⟨b, o, none⟩ = some v)
    {x : D} {v : Value} (h : RD ok w x v) : RD ok' w' x v := by
  induction h with
  | int k n => exact .int k n
  | bool b => exact .bool b
  | str s => exact .str s
  | agg cs vs hl _ ih => exact .agg cs vs hl ih
  | emp l A cap hl => exact .emp l A cap hl
  | row l b o cap f hc hm hz ho hcell _ ih => exact .row l b o cap f hc hm hz ho (fun i j hi hj => hk _ _ _ (hcell i j hi hj).1 (hcell i j hi hj).2) ih

/-- An abstract value, in a world, as a value. -/
inductive RA (γ : Gh) (w : World) : AV → Value → Prop
  | d (x : D) (v : Value) (h : RD γ.ok w x v) : RA γ w (.d x) v
  | nils : RA γ w .nils (.slice none 0 0)
  | full (l : L) (A : Option Addr) (h : RD γ.ok w (.sl l) (.slice A l.len l.len)) : RA γ w (.full l) (.slice A l.len l.len)
  | appF (g : Nat) (l : L) (A : Option Addr) (h : RD γ.ok w (.sl l) (.slice A l.len l.len)) : RA γ w (.app g l) (.slice A l.len l.len)
  | app (g : Nat) (l : L) (b cap : Nat) (cs : Array Value) (e : TypeId) (h : RD γ.ok w (.sl l) (.slice (some ⟨b, 0, none⟩) l.len cap)) (ho : γ.own b = some (some g, l.len * l.size))
      (hb : w.heap[b]? = some (.cells cs e (0, 0))) (hc : cap * l.size ≤ cs.size) (hn : 0 < l.len ∧ l.len ≤ cap) (hm : cap ≤ maxLen) : RA γ w (.app g l) (.slice (some ⟨b, 0, none⟩) l.len cap)
  | ptr (id off b : Nat) (h : γ.live id = some b) : RA γ w (.ptr id off) (.pointer (some ⟨b, off, none⟩))
  | rp (cs : List D) (b o : Nat) (f : Nat → Value) (ho : ∀ j (hj : j < cs.length), cs[j].one = true) (hcell : ∀ j, j < cs.length → γ.ok b (o + j) ∧ w.cell? ⟨b, o + j, none⟩ = some (f j))
      (h : ∀ j (hj : j < cs.length), RD γ.ok w cs[j] (f j)) : RA γ w (.rp cs) (.pointer (some ⟨b, o, none⟩))
  | os (id off s n b cap : Nat) (h : γ.live id = some b) (hn : n ≤ cap) (hm : cap ≤ maxLen) : RA γ w (.os id off s n) (.slice (some ⟨b, off, none⟩) n cap)
  | fn (f : FuncId) (caps : List AV) (vs : Array Value) (hl : caps.length = vs.size) (h : ∀ i (h1 : i < caps.length) (h2 : i < vs.size), RA γ w caps[i] vs[i]) : RA γ w (.fn f caps) (.func (.func f) #[] vs)
  | agg (cs : List AV) (vs : Array Value) (hl : cs.length = vs.size) (h : ∀ i (h1 : i < cs.length) (h2 : i < vs.size), RA γ w cs[i] vs[i]) : RA γ w (.agg cs) (.agg vs)
  | tup (cs : List AV) (vs : Array Value) (hl : cs.length = vs.size) (h : ∀ i (h1 : i < cs.length) (h2 : i < vs.size), RA γ w cs[i] vs[i]) : RA γ w (.tup cs) (.tuple vs)
  | nilp : RA γ w .nilp (.pointer none)
  | nilf : RA γ w .nilf .nilFunc
  | top (v : Value) : RA γ w .top v

def RAs (γ : Gh) (w : World) (as : List AV) (vs : Array Value) : Prop := as.length = vs.size ∧ ∀ i (h1 : i < as.length) (h2 : i < vs.size), RA γ w as[i] vs[i]

/-- What holds between an abstract heap and a world. -/
structure Inv (γ : Gh) (H : Hp) (w : World) : Prop where
  dom : ∀ i b, γ.live i = some b → ∃ B, H[i]? = some (some B)
  blk : ∀ i B, H[i]? = some (some B) → ∃ b cs, γ.live i = some b ∧ w.heap[b]? = some (.cells cs B.ty (0, 0)) ∧ B.cells.length = cs.size ∧ ∀ j (h1 : j < B.cells.length) (h2 : j < cs.size), RA γ w B.cells[j] cs[j]
  inj : ∀ i j b, γ.live i = some b → γ.live j = some b → i = j
  own : ∀ b x, γ.own b = some x → b < w.heap.size ∧ ∀ i, γ.live i ≠ some b
  tag : ∀ b g l, γ.own b = some (some g, l) → ∃ cs e, w.heap[b]? = some (.cells cs e (0, 0)) ∧ l ≤ cs.size

theorem Inv.lt {γ : Gh} {H : Hp} {w : World} (h : Inv γ H w) {i b : Nat} (hi : γ.live i = some b) : b < w.heap.size := by
  obtain ⟨B, hB⟩ := h.dom i b hi
  obtain ⟨b', cs, h1, h2, _⟩ := h.blk i B hB
  rw [hi] at h1; injection h1 with h1; subst h1
  exact (Array.getElem?_eq_some_iff.1 h2).1
theorem Inv.live_lt {γ : Gh} {H : Hp} {w : World} (h : Inv γ H w) {i b : Nat} (hi : γ.live i = some b) : i < H.length := by
  obtain ⟨B, hB⟩ := h.dom i b hi
  exact (List.getElem?_eq_some_iff.1 hB).1

/-- What a run leaves of the world in which it began. -/
structure Evo (γ : Gh) (w : World) (γ' : Gh) (w' : World) : Prop where
  os : w'.os = w.os
  tape : w'.tape = w.tape
  output : w'.output = w.output
  size : w.heap.size ≤ w'.heap.size
  same : ∀ b, b < w.heap.size → (∀ i, γ.live i ≠ some b) → (∀ g l, γ.own b ≠ some (some g, l)) → w'.heap[b]? = w.heap[b]? ∧ γ'.own b = γ.own b
  tip : ∀ b g l, γ.own b = some (some g, l) → (∀ cs e, w.heap[b]? = some (.cells cs e (0, 0)) → ∃ cs', w'.heap[b]? = some (.cells cs' e (0, 0)) ∧ cs'.size = cs.size ∧ ∀ j, j < l → cs'[j]? = cs[j]?) ∧ (∀ t l', γ'.own b = some (t, l') → l ≤ l') 
  live : ∀ i b, γ.live i = some b → γ'.live i = some b
  new : ∀ i b, γ'.live i = some b → γ.live i = some b ∨ w.heap.size ≤ b
  nown : ∀ b x, γ'.own b = some x → γ.own b ≠ none ∨ w.heap.size ≤ b
end Go.Ab
