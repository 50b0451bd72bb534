/- From the statement's reading of the arguments to data, and from a contract to the statement's row. -/
import Derived.Test.YtkcoepeeamooiaaAb18
import Derived.Test.YtkcoepeeamooiaaAb19
import Derived.WalkKit
import Derived.ProofKit
import Derived.OpenShut
import Derived.ChangeOld
import Derived.Below
import Derived.SizedLaws
set_option linter.unusedVariables false
set_option linter.unusedSimpArgs false
namespace Go.Ab
open Go Go.ChangeShapes Go.WideShapes Go.ChangeAt Go.RowKit

/-- What one cell of an argument may be. -/
inductive Leaf where
  | int (k : IntKind)
  | bool
  | str
  | ints (k : IntKind)
  | sl (ls : List Leaf)
inductive Has : Leaf → D → Prop
  | int (k : IntKind) (n : Int) (h : (Lit.int k n).wf = true) : Has (.int k) (.int k n)
  | bool (b : Bool) : Has .bool (.bool b)
  | str (s : ByteArray) (h : s.size ≤ reachBytes) : Has .str (.str s)
  | ints (k : IntKind) (l : List Int) (h : ∀ x ∈ l, (Lit.int k x).wf = true) (hm : l.length ≤ reachBytes) : Has (.ints k) (.sl (.ints k l))
  | sl (ls : List Leaf) (rows : List (List D)) (hm : rows.length ≤ reachBytes) (hl : ∀ r ∈ rows, r.length = ls.length) (h : ∀ r ∈ rows, ∀ i (h1 : i < ls.length) (h2 : i < r.length), Has ls[i] r[i]) : Has (.sl ls) (.sl (.gen ls.length rows))
def Hass (ls : List Leaf) (ds : List D) : Prop := ds.length = ls.length ∧ ∀ i (h1 : i < ls.length) (h2 : i < ds.length), Has ls[i] ds[i]
theorem Has.one {l : Leaf} {x : D} (h : Has l x) : x.one = true := by cases h <;> rfl

def fieldLeaves (of : TypeId → Option (List Leaf)) (P : Program) : List Field → Nat → Option (List Leaf)
  | [], _ => some []
  | f :: fs, o => if f.offset = o then (match of f.type with
    | some ls => if ls.length = P.cellsOf f.type then (fieldLeaves of P fs (o + ls.length)).map (ls ++ ·) else none
    | none => none) else none
/-- The cells of a type. -/
def leavesOf (P : Program) : Nat → TypeId → Option (List Leaf)
  | 0, _ => none
  | n + 1, t => match P.underlying t with
    | some (.int k) => some [.int k]
    | some .bool => some [.bool]
    | some .string => some [.str]
    | some (.slice e) => (match P.underlying e with
      | some (.int k) => if P.cellsOf e = 1 ∧ 0 < P.bytesOf e then some [.ints k] else none
      | _ => (match leavesOf P n e with
        | some ls => if P.cellsOf e = ls.length ∧ 0 < ls.length ∧ 0 < P.bytesOf e then some [.sl ls] else none
        | none => none))
    | some (.struct fs) => (match fieldLeaves (leavesOf P n) P fs.toList 0 with
      | some ls => if ls.length = P.cellsOf t then some ls else none
      | none => none)
    | _ => none

/-- Cells that show data. -/
structure Shows (w : World) (ls : List Leaf) (ds : List D) (cs : List Value) : Prop where
  len : cs.length = ls.length
  has : Hass ls ds
  rd : ∀ i (h1 : i < ds.length) (h2 : i < cs.length), RD Gh.none.ok w ds[i] cs[i]
theorem Gh.none_ok (b o : Nat) : Gh.none.ok b o := ⟨fun i h => by simp [Gh.none] at h, fun t l h => by simp [Gh.none] at h⟩
theorem Shows.one {w : World} {l : Leaf} {d : D} {v : Value} (h : Has l d) (hr : RD Gh.none.ok w d v) : Shows w [l] [d] [v] :=
  ⟨rfl, ⟨rfl, fun i h1 h2 => by simp at h1; subst h1; exact h⟩, fun i h1 h2 => by simp at h1; subst h1; exact hr⟩
theorem Shows.app {w : World} {l1 l2 : List Leaf} {d1 d2 : List D} {c1 c2 : List Value} (h1 : Shows w l1 d1 c1) (h2 : Shows w l2 d2 c2) : Shows w (l1 ++ l2) (d1 ++ d2) (c1 ++ c2) := by
  have e1 := h1.has.1
  have e2 := h1.len
  refine ⟨by simp [h1.len, h2.len], ⟨by simp [h1.has.1, h2.has.1], fun i j1 j2 => ?_⟩, fun i j1 j2 => ?_⟩
  · rcases Nat.lt_or_ge i l1.length with hi | hi
    · rw [List.getElem_append_left hi, List.getElem_append_left (by omega)]; exact h1.has.2 i hi _
    · rw [List.getElem_append_right hi, List.getElem_append_right (by omega)]
      have := h2.has.2 (i - l1.length) (by simp at j1; omega) (by simp at j2; omega)
      simpa [e1] using this
  · rcases Nat.lt_or_ge i d1.length with hi | hi
    · rw [List.getElem_append_left hi, List.getElem_append_left (by omega)]; exact h1.rd i hi _
    · rw [List.getElem_append_right hi, List.getElem_append_right (by omega)]
      have := h2.rd (i - d1.length) (by simp at j1; omega) (by simp at j2; omega)
      simpa [e1, e2] using this
theorem Shows.nil {w : World} : Shows w [] [] [] := ⟨rfl, ⟨rfl, fun i h1 => by simp at h1⟩, fun i h1 => by simp at h1⟩

theorem Addr.add_add (a : Addr) (i j : Nat) : (a.add i).add j = a.add (i + j) := by
  unfold Addr.add
  split <;> split <;> split <;> simp_all <;> omega
theorem spot_none {w : World} {a : Addr} {v : Value} (h : w.cell? a = some v) : a.spot = Option.none := by
  unfold World.cell? at h
  split at h
  · cases hs : a.spot with
    | none => rfl
    | some s => simp [hs] at h
  · cases h
theorem Addr.add_eq {a : Addr} (h : a.spot = Option.none) (i : Nat) : a.add i = ⟨a.block, a.off + i, Option.none⟩ := by
  unfold Addr.add
  split
  · cases a; simp_all
  · rfl

section
variable {H : Type} {enc : TypeId × Value → H} {P : Program} {w : World} {base : Nat} {spare : Nat → Bool} {held : Bool}
/-- Within the form's reach. -/
def Light (P : Program) (t : TypeId) (d : DataW H) : Prop := ∀ m ∈ d.weights P t, m ≤ reachBytes
theorem light_each {fs : Array Field} {t : TypeId} (hu : P.underlying t = some (.struct fs)) {xs : List (DataW H)} (h : Light P t (.agg xs)) {i : Nat} {f : Field} (hf : fs[i]? = some f) {x : DataW H} (hx : xs[i]? = some x) : Light P f.type x := by
  intro m hm
  refine h m ?_
  simp only [DataW.weights, hu]
  exact DataW.weights_mem_each (j := i) (by simp [hf]) hx m hm
theorem light_all {e : TypeId} : ∀ {xs : List (DataW H)} {x : DataW H} {m : Nat}, x ∈ xs → m ∈ x.weights P e → m ∈ DataW.weightsAll P e xs
  | y :: ys, x, m, hx, hm => by
    simp only [DataW.weightsAll, List.mem_append]
    rcases List.mem_cons.1 hx with rfl | hx
    · exact .inl hm
    · exact .inr (light_all hx hm)
theorem light_slice {t e : TypeId} (hu : P.underlying t = some (.slice e)) {xs ys : List (DataW H)} (h : Light P t (.slice xs ys)) : (xs.length + ys.length) * P.bytesOf e ≤ reachBytes ∧ ∀ x ∈ xs, Light P e x := by
  simp only [Light, DataW.weights, hu, List.mem_cons, List.mem_append] at h
  exact ⟨h _ (.inl rfl), fun x hx m hm => h m (.inr (.inl (light_all hx hm)))⟩
theorem le_of_mul {a b n : Nat} (h : (a + b) * n ≤ reachBytes) (hn : 0 < n) : a ≤ reachBytes := by
  have : a ≤ (a + b) * n := Nat.le_trans (Nat.le_add_right a b) (Nat.le_mul_of_pos_right _ hn)
  omega
theorem fields_show {of : TypeId → Option (List Leaf)} {fuel : Nat} {cs : List Value}
    (hof : ∀ t cs x ls, of t = some ls → DataW.trod enc P w base spare held fuel t cs = some x → Light P t x.1 → ∃ ds, Shows w ls ds cs) :
    ∀ (fs : List Field) (o : Nat) (ls : List Leaf), fieldLeaves of P fs o = some ls →
      (∀ f ∈ fs, ∃ x, DataW.trod enc P w base spare held fuel f.type ((cs.drop f.offset).take (P.cellsOf f.type)) = some x ∧ Light P f.type x.1) → ∃ ds, Shows w ls ds ((cs.drop o).take ls.length)
  | [], o, ls, h, _ => by simp [fieldLeaves] at h; subst h; exact ⟨[], by simpa using Shows.nil⟩
  | f :: fs, o, ls, h, ht => by
    unfold fieldLeaves at h
    split at h
    case isFalse => cases h
    rename_i ho
    split at h
    case h_2 => cases h
    rename_i l1 hl1
    split at h
    case isFalse => cases h
    rename_i hc
    simp only [Option.map_eq_some_iff] at h
    obtain ⟨l2, h2, rfl⟩ := h
    obtain ⟨x, hx, hlx⟩ := ht f (by simp)
    obtain ⟨d1, s1⟩ := hof _ _ _ _ hl1 hx hlx
    obtain ⟨d2, s2⟩ := fields_show hof fs (o + l1.length) l2 h2 (fun g hg => ht g (by simp [hg]))
    refine ⟨d1 ++ d2, ?_⟩
    have e : (cs.drop o).take (l1 ++ l2).length = (cs.drop o).take l1.length ++ (cs.drop (o + l1.length)).take l2.length := by
      rw [List.length_append, List.take_add, List.drop_drop]
    rw [e]
    rw [ho, ← hc] at s1
    exact s1.app s2
theorem trod_show : ∀ (n : Nat) (t : TypeId) (ls : List Leaf), leavesOf P n t = some ls → ∀ (fuel : Nat) (cs : List Value) (x : DataW H × List MemPlace), DataW.trod enc P w base spare held fuel t cs = some x → Light P t x.1 → ∃ ds, Shows w ls ds cs
  | 0, t, ls, h => by simp [leavesOf] at h
  | n + 1, t, ls, h => by
    intro fuel cs x hx hlt
    unfold leavesOf at h
    split at h
    case h_1 k hu =>
      injection h with h; subst h
      obtain ⟨m, rfl, _, hw⟩ := DataW.trod_int hu hx
      exact ⟨_, .one (.int k m hw) (.int k m)⟩
    case h_2 hu =>
      injection h with h; subst h
      obtain ⟨b, rfl, _⟩ := DataW.trod_bool hu hx
      exact ⟨_, .one (.bool b) (.bool b)⟩
    case h_3 hu =>
      injection h with h; subst h
      obtain ⟨s, rfl, rfl, hs⟩ := DataW.trod_string hu hx
      have hs : s.size ≤ reachBytes := by
        have := hlt s.data.toList.length (by simp [DataW.weights])
        simpa using this
      exact ⟨_, .one (.str s hs) (.str s)⟩
    case h_4 e hu =>
      split at h
      · rename_i k he
        split at h
        case isFalse => cases h
        rename_i hc
        obtain ⟨hc, hbp⟩ := hc
        injection h with h; subst h
        rcases open_ints hu he hc hx with ⟨rfl, _⟩ | ⟨a, len, cap, zs, rfl, _, hl, hm, hz, hxe, hcell, hw⟩
        · exact ⟨_, .one (.ints k [] (by simp) (by simp)) (.emp _ _ _ rfl)⟩
        · rw [hxe] at hlt
          have hreach := le_of_mul (light_slice hu hlt).1 hbp
          simp only [lits, List.length_map] at hreach
          have hzl : len ≤ zs.length := by split at hz <;> omega
          refine ⟨[.sl (.ints k (zs.take len))], .one (.ints k _ (fun y hy => hw y (List.mem_of_mem_take hy)) hreach) ?_⟩
          rcases Nat.eq_zero_or_pos len with h0 | h0
          · subst h0; exact .emp _ _ _ (by simp [L.len])
          · have hsp := spot_none (by simpa [Addr.add] using hcell 0 (by omega))
            have hlen : (L.ints k (zs.take len)).len = len := by simp [L.len]; omega
            have := RD.row (ok := Gh.none.ok) (w := w) (.ints k (zs.take len)) a.block a.off cap (fun i _ => .int k ((zs.take len).getD i 0)) (by rw [hlen]; exact hl) hm (fun i _ => rfl)
              (fun i j _ hj => by simp [L.row] at hj; subst hj; rfl)
              (fun i j hi hj => by
                rw [hlen] at hi
                refine ⟨Gh.none_ok _ _, ?_⟩
                simp [L.size] at hj; subst hj
                have := hcell i (by omega)
                rw [Addr.add_eq hsp] at this
                simp only [L.size, Nat.mul_one, Nat.add_zero]
                rw [this]
                simp [List.getD_eq_getElem?_getD, List.getElem?_take, hi])
              (fun i j hi hj => by simp [L.row] at hj; subst hj; exact .int _ _)
            rw [hlen] at this
            have ea : (⟨a.block, a.off, Option.none⟩ : Addr) = a := by cases a; simp_all
            rw [ea] at this; exact this
      · split at h
        case h_2 => cases h
        rename_i l1 hl1
        split at h
        case isFalse => cases h
        rename_i hc
        obtain ⟨hc, hpos, hbp⟩ := hc
        injection h with h; subst h
        rcases DataW.trod_slice hu hx with ⟨rfl, _⟩ | ⟨a, len, cap, elems, rest, m, rfl, rfl, hxe, _, hl, hm, hlen, hel, _⟩
        · exact ⟨_, .one (.sl l1 [] (by simp) (by simp) (by simp)) (.emp _ _ _ rfl)⟩
        · rw [hxe] at hlt
          obtain ⟨hreach, hlts⟩ := light_slice hu hlt
          have hreach := le_of_mul hreach hbp
          simp only [List.length_map] at hreach
          have each : ∀ i, i < len → ∃ ds cs', w.cells? base (a.add (i * l1.length)) l1.length = some cs' ∧ Shows w l1 ds cs' := fun i hi => by
            have h1 := hel i hi
            rw [hc, List.getElem?_eq_getElem (by omega), Option.bind_eq_some_iff] at h1
            obtain ⟨cs', h2, h3⟩ := h1
            obtain ⟨ds, hs⟩ := trod_show n e l1 hl1 m cs' _ h3 (hlts _ (List.mem_map.2 ⟨_, List.getElem_mem _, rfl⟩))
            exact ⟨ds, cs', h2, hs⟩
          obtain ⟨D1, hD1⟩ : ∃ D1 : Nat → List D, ∀ i, i < len → ∃ cs', w.cells? base (a.add (i * l1.length)) l1.length = some cs' ∧ Shows w l1 (D1 i) cs' :=
            ⟨fun i => if h : i < len then Classical.choose (each i h) else [], fun i hi => by simp only [hi, dif_pos]; exact Classical.choose_spec (each i hi)⟩
          obtain ⟨C1, hC1⟩ : ∃ C1 : Nat → List Value, ∀ i, i < len → w.cells? base (a.add (i * l1.length)) l1.length = some (C1 i) ∧ Shows w l1 (D1 i) (C1 i) :=
            ⟨fun i => if h : i < len then Classical.choose (hD1 i h) else [], fun i hi => by simp only [hi, dif_pos]; exact Classical.choose_spec (hD1 i hi)⟩
          have hrow : ∀ i, i < len → ((List.range len).map D1).getD i [] = D1 i := fun i hi => by simp [List.getD_eq_getElem?_getD, hi]
          have hL : (L.gen l1.length ((List.range len).map D1)).len = len := by simp [L.len]
          refine ⟨[.sl (.gen l1.length ((List.range len).map D1))], .one (.sl l1 _ (by simp; omega) (fun r hr => ?_) (fun r hr => ?_)) ?_⟩
          · obtain ⟨i, hi, rfl⟩ := List.mem_map.1 hr
            exact (hC1 i (List.mem_range.1 hi)).2.has.1
          · obtain ⟨i, hi, rfl⟩ := List.mem_map.1 hr
            exact (hC1 i (List.mem_range.1 hi)).2.has.2
          · rcases Nat.eq_zero_or_pos len with h0 | h0
            · subst h0; exact .emp _ _ _ (by simp [L.len])
            · have cellAt : ∀ i j, i < len → j < l1.length → ∃ v, w.cell? ((a.add (i * l1.length)).add j) = some v ∧ (C1 i)[j]? = some v := fun i j hi hj => by
                obtain ⟨_, k2, k3⟩ := World.cells?_some (hC1 i hi).1
                have h2 : j < (C1 i).length := by rw [k2]; exact hj
                exact ⟨(C1 i)[j], by rw [k3 j hj, List.getElem?_eq_getElem h2], List.getElem?_eq_getElem h2⟩
              have hsp : a.spot = Option.none := by
                obtain ⟨v, hv, _⟩ := cellAt 0 0 h0 hpos
                exact spot_none (by simpa [Addr.add] using hv)
              have := RD.row (ok := Gh.none.ok) (w := w) (.gen l1.length ((List.range len).map D1)) a.block a.off cap (fun i j => (C1 i)[j]!) (by rw [hL]; exact hl) hm
                (fun i hi => by rw [hL] at hi; simp only [L.row, L.size, hrow i hi]; exact (hC1 i hi).2.has.1)
                (fun i j hi hj => by
                  rw [hL] at hi
                  have e : (L.gen l1.length ((List.range len).map D1)).row i = D1 i := hrow i hi
                  simp only [e] at hj ⊢
                  exact ((hC1 i hi).2.has.2 j (by rw [← (hC1 i hi).2.has.1]; exact hj) hj).one)
                (fun i j hi hj => by
                  rw [hL] at hi
                  refine ⟨Gh.none_ok _ _, ?_⟩
                  obtain ⟨v, h1, h2⟩ := cellAt i j hi hj
                  rw [Addr.add_add, Addr.add_eq hsp] at h1
                  simp only [L.size]
                  rw [h1]
                  have : (C1 i)[j]! = v := by simp [getElem!_def, h2]
                  rw [this])
                (fun i j hi hj => by
                  rw [hL] at hi
                  have e : (L.gen l1.length ((List.range len).map D1)).row i = D1 i := hrow i hi
                  simp only [e] at hj ⊢
                  have hs := (hC1 i hi).2
                  have h2 : j < (C1 i).length := by rw [hs.len, ← hs.has.1]; exact hj
                  have := hs.rd j hj h2
                  have e2 : (C1 i)[j]! = (C1 i)[j] := by simp [getElem!_def, List.getElem?_eq_getElem h2]
                  rw [e2]; exact this)
              rw [hL] at this
              have ea : (⟨a.block, a.off, Option.none⟩ : Addr) = a := by cases a; simp_all
              rw [ea] at this; exact this
    case h_5 fs hu =>
      split at h
      case h_2 => cases h
      rename_i l1 hl1
      split at h
      case isFalse => cases h
      rename_i hc
      injection h with h; subst h
      obtain ⟨xs, m, rfl, rfl, hlen, hxl, hf⟩ := DataW.trod_struct hu hx
      obtain ⟨ds, hs⟩ := fields_show (cs := cs) (of := leavesOf P n) (fuel := m) (fun t cs x ls h1 h2 h3 => trod_show n t ls h1 m cs x h2 h3) fs.toList 0 l1 hl1 (fun f hf' => by
        obtain ⟨i, hi⟩ := List.getElem?_of_mem hf'
        have hi' : fs[i]? = some f := by simpa using hi
        have hlti : i < xs.length := by rw [hxl]; exact (Array.getElem?_eq_some_iff.1 hi').1
        exact ⟨xs[i], by rw [hf i f hi', List.getElem?_eq_getElem hlti], light_each hu hlt hi' (by simp [List.getElem?_eq_getElem hlti])⟩)
      rw [hc, ← hlen] at hs
      simp at hs
      exact ⟨ds, hs⟩
    case h_6 => cases h
/-- A struct that came in. -/
theorem arg_agg {t : TypeId} {fs : Array Field} {v : Value} {d : DataW H} {ps : List MemPlace} {r : _root_.Go.Reach} {base0 : Nat} {n : Nat} {ls : List Leaf} (hu : P.underlying t = some (.struct fs)) (hok : Value.okWide P w r base0 t v) (h : DataW.Trod enc P w base spare held t v d ps) (hw : Light P t d) (hl : leavesOf P n t = some ls) :
    ∃ ds, Hass ls ds ∧ RD Gh.none.ok w (.agg ds) v := by
  simp only [Value.okWide, hu] at hok
  obtain ⟨cs, rfl, _⟩ := hok
  obtain ⟨fuel, hf⟩ := h
  obtain ⟨ds, hs⟩ := trod_show n t ls hl fuel _ _ hf hw
  have hlen : cs.size = ds.length := by have := hs.len; have := hs.has.1; simp [Value.cells] at *; omega
  exact ⟨ds, hs.has, .agg ds cs hlen.symm fun i h1 h2 => by have := hs.rd i h1 (by simpa [Value.cells] using h2); simpa [Value.cells] using this⟩
/-- Another value that came in: one cell. -/
theorem arg_one {t : TypeId} {v : Value} {d : DataW H} {ps : List MemPlace} {n : Nat} {l : Leaf} (hv : v.cells = #[v]) (h : DataW.Trod enc P w base spare held t v d ps) (hw : Light P t d) (hl : leavesOf P n t = some [l]) :
    ∃ x, Has l x ∧ RD Gh.none.ok w x v := by
  obtain ⟨fuel, hf⟩ := h
  obtain ⟨ds, hs⟩ := trod_show n t [l] hl fuel _ _ hf hw
  match ds, hs with
  | [x], hs =>
    refine ⟨x, hs.has.2 0 (by simp) (by simp), ?_⟩
    have := hs.rd 0 (by simp) (by simp [hv])
    simpa [hv] using this
  | [], hs => have := hs.has.1; simp at this
  | _ :: _ :: _, hs => have := hs.has.1; simp at this
end
theorem inv_none (w : World) : Inv Gh.none [] w := ⟨fun i b h => by simp [Gh.none] at h, fun i B h => by simp at h, fun i j b h => by simp [Gh.none] at h, fun b x h => by simp [Gh.none] at h, fun b g l h => by simp [Gh.none] at h⟩
/-- What a law's contract says to the row. -/
theorem Fun.row {P : Program} {f : FuncId} {xs : List AV} {args : Array Value} {W : World} (h : Fun P f xs (.d (.bool true))) (hA : RAs Gh.none W xs args) : Calls P f args W fun e w' => e = .returned (.bool true) ∧ Below W.heap.size W w' := by
  refine (h Gh.none W args (inv_none W) hA).mono fun e w' ⟨γ', r, v, H', h1, h2, h3, h4, h5, h6⟩ => ?_
  subst h6
  cases h3 with
  | d _ _ h3 =>
    cases h3
    exact ⟨h1, ⟨h4.os, h4.tape, h4.output, h4.size, fun k hk => (h4.same k hk (fun i e => by simp [Gh.none] at e) (fun g l e => by simp [Gh.none] at e)).1⟩⟩
end Go.Ab
