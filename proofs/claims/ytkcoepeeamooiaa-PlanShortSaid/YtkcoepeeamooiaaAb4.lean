/- The run over abstract states is sound: values, and operations that make no memory. -/
import Derived.Test.YtkcoepeeamooiaaAb3
import Derived.Deep.AppendSrc
import Derived.Laws.CopyRow
set_option linter.unusedVariables false
set_option linter.unusedSimpArgs false
namespace Go.Ab
open Go

theorem const1_sound (γ : Gh) (w : World) (v : Value) : RA γ w (const1 v) v := by
  cases v with
  | int k n => exact .d _ _ (.int _ _)
  | bool b => exact .d _ _ (.bool _)
  | string s => exact .d _ _ (.str _)
  | slice a n c =>
    cases a with
    | some a => exact .top _
    | none => cases n with
      | zero => cases c with
        | zero => exact .nils
        | succ c => exact .top _
      | succ n => exact .top _
  | pointer a => cases a with
    | none => exact .nilp
    | some a => exact .top _
  | nilFunc => exact .nilf
  | tuple vs =>
    obtain ⟨l⟩ := vs
    cases l with
    | nil => exact .tup [] #[] rfl (fun i h1 => by simp at h1)
    | cons x l => exact .top _
  | _ => exact .top _
theorem constAV_sound (γ : Gh) (w : World) (v : Value) : RA γ w (constAV v) v := by
  unfold constAV
  split
  · rename_i cs
    refine .agg _ cs (by simp) fun i h1 h2 => ?_
    simp only [List.getElem_map, Array.getElem_toList]
    exact const1_sound γ w _
  · exact const1_sound γ w _
theorem eval_sound {γ : Gh} {w : World} {fr : Fr} {a : Act} (h : RAs γ w fr a.tmps) (x : Operand) : RA γ w (aeval fr x) (a.eval x) := by
  cases x with
  | tmp t =>
    simp only [aeval, geta, Act.eval]
    rcases Nat.lt_or_ge t fr.length with hl | hl
    · have h2 : t < a.tmps.size := by rw [← h.1]; exact hl
      have := h.2 t hl h2
      simpa [hl, h2] using this
    · have h3 : ¬ t < fr.length := Nat.not_lt.2 hl
      have h2 : ¬ t < a.tmps.size := by rw [← h.1]; exact h3
      simp [h2, h3]
      exact .tup [] #[] rfl (fun i h1 => by simp at h1)
  | const v => exact constAV_sound γ w v
  | global g => exact .top _
  | func f => exact .fn f [] #[] rfl (fun i h1 => by simp at h1)
theorem evals_sound {γ : Gh} {w : World} {fr : Fr} {a : Act} (h : RAs γ w fr a.tmps) (xs : Array Operand) : RAs γ w (xs.toList.map (aeval fr)) (xs.map a.eval) := by
  refine ⟨by simp, fun i h1 h2 => ?_⟩
  simp only [List.getElem_map, Array.getElem_map, Array.getElem_toList]
  exact eval_sound h _

theorem RAs.one {γ : Gh} {w : World} {a : AV} {v : Value} (h : RA γ w a v) : RAs γ w [a] #[v] := ⟨rfl, fun i h1 h2 => by
  have : i = 0 := by simp at h1; omega
  subst this; exact h⟩
theorem cells_sound {γ : Gh} {w : World} {a : AV} {v : Value} (h : RA γ w a v) {cs : List AV} (hc : a.cells? = some cs) : RAs γ w cs v.cells := by
  cases h with
  | d x v h =>
    cases h with
    | agg ds vs hl h =>
      simp only [AV.cells?, Option.some.injEq] at hc; subst hc
      refine ⟨by simp [Value.cells, hl], fun i h1 h2 => ?_⟩
      simp only [List.getElem_map]
      exact .d _ _ (h i (by simpa using h1) h2)
    | int k n => simp only [AV.cells?, Option.some.injEq] at hc; subst hc; exact RAs.one (.d _ _ (.int k n))
    | bool b => simp only [AV.cells?, Option.some.injEq] at hc; subst hc; exact RAs.one (.d _ _ (.bool b))
    | str s => simp only [AV.cells?, Option.some.injEq] at hc; subst hc; exact RAs.one (.d _ _ (.str s))
    | emp l A cap hl => simp only [AV.cells?, Option.some.injEq] at hc; subst hc; exact RAs.one (.d _ _ (.emp l A cap hl))
    | row l b o cap f hc' hm hz ho hcell h => simp only [AV.cells?, Option.some.injEq] at hc; subst hc; exact RAs.one (.d _ _ (.row l b o cap f hc' hm hz ho hcell h))
  | agg ds vs hl h => simp only [AV.cells?, Option.some.injEq] at hc; subst hc; exact ⟨hl, h⟩
  | top v => cases hc
  | nils => simp only [AV.cells?, Option.some.injEq] at hc; subst hc; exact RAs.one .nils
  | full l A h => simp only [AV.cells?, Option.some.injEq] at hc; subst hc; exact RAs.one (.full l A h)
  | appF g l A h => simp only [AV.cells?, Option.some.injEq] at hc; subst hc; exact RAs.one (.appF g l A h)
  | app g l b cap cs' e h ho hb hc' hn hm => simp only [AV.cells?, Option.some.injEq] at hc; subst hc; exact RAs.one (.app g l b cap cs' e h ho hb hc' hn hm)
  | ptr id off b h => simp only [AV.cells?, Option.some.injEq] at hc; subst hc; exact RAs.one (.ptr id off b h)
  | rp ds b o f ho hcell h => simp only [AV.cells?, Option.some.injEq] at hc; subst hc; exact RAs.one (.rp ds b o f ho hcell h)
  | os id off s n b cap h hn hm => simp only [AV.cells?, Option.some.injEq] at hc; subst hc; exact RAs.one (.os id off s n b cap h hn hm)
  | fn f caps vs hl h => simp only [AV.cells?, Option.some.injEq] at hc; subst hc; exact RAs.one (.fn f caps vs hl h)
  | tup ds vs hl h => simp only [AV.cells?, Option.some.injEq] at hc; subst hc; exact RAs.one (.tup ds vs hl h)
  | nilp => simp only [AV.cells?, Option.some.injEq] at hc; subst hc; exact RAs.one .nilp
  | nilf => simp only [AV.cells?, Option.some.injEq] at hc; subst hc; exact RAs.one .nilf
theorem RD.one {ok : Nat → Nat → Prop} {w : World} {x : D} {v : Value} (h : RD ok w x v) (h1 : x.one = true) : v.oneCell' = true := by
  cases h <;> first | rfl | simp [D.one] at h1
theorem one_sound {γ : Gh} {w : World} {a : AV} {v : Value} (h : RA γ w a v) (h1 : a.one = true) : v.oneCell' = true := by
  cases h with
  | d x v h => exact h.one (by simpa [AV.one] using h1)
  | agg => simp [AV.one] at h1
  | tup => simp [AV.one] at h1
  | top => simp [AV.one] at h1
  | _ => rfl

theorem toDs_at {cs : List AV} {ds : List D} (h : toDs cs = some ds) : cs.length = ds.length ∧ ∀ i (h1 : i < cs.length) (h2 : i < ds.length), cs[i].toD = some ds[i] := by
  induction cs generalizing ds with
  | nil => simp [toDs] at h; subst h; exact ⟨rfl, fun i h1 => by simp at h1⟩
  | cons c cs ih =>
    unfold toDs at h
    split at h
    · rename_i x xs hx hxs
      injection h with h; subst h
      obtain ⟨h1, h2⟩ := ih hxs
      refine ⟨by simp [h1], fun i j1 j2 => ?_⟩
      cases i with
      | zero => exact hx
      | succ i => exact h2 i (by simpa using j1) (by simpa using j2)
    · cases h
theorem toD_sound {γ : Gh} {w : World} {a : AV} {v : Value} (h : RA γ w a v) : ∀ {x : D}, a.toD = some x → RD γ.ok w x v := by
  induction h with
  | d x v h => intro y hy; simp [AV.toD] at hy; subst hy; exact h
  | nils => intro y hy; simp [AV.toD] at hy; subst hy; exact .emp _ none 0 rfl
  | full l A h => intro y hy; simp [AV.toD] at hy; subst hy; exact h
  | appF g l A h => intro y hy; simp [AV.toD] at hy; subst hy; exact h
  | app g l b cap cs e h ho hb hc hn hm => intro y hy; simp [AV.toD] at hy; subst hy; exact h
  | agg cs vs hl _ ih =>
    intro y hy
    simp only [AV.toD, Option.map_eq_some_iff] at hy
    obtain ⟨ds, hds, rfl⟩ := hy
    obtain ⟨h1, h2⟩ := toDs_at hds
    exact .agg ds vs (by rw [← h1]; exact hl) fun i j1 j2 => ih i (by rw [h1]; exact j1) j2 (h2 i (by rw [h1]; exact j1) j1)
  | _ => intro y hy; simp [AV.toD] at hy
theorem toL_sound {γ : Gh} {w : World} {a : AV} {v : Value} (h : RA γ w a v) {l : L} (hl : a.toL = some l) : RD γ.ok w (.sl l) v := by
  cases h with
  | d x v h => cases x <;> simp [AV.toL] at hl; subst hl; exact h
  | nils => simp [AV.toL] at hl; subst hl; exact .emp _ none 0 rfl
  | full l A h => simp [AV.toL] at hl; subst hl; exact h
  | appF g l A h => simp [AV.toL] at hl; subst hl; exact h
  | app g l b cap cs e h ho hb hc hn hm => simp [AV.toL] at hl; subst hl; exact h
  | _ => simp [AV.toL] at hl

/-- What is known of a type. -/
theorem ty_parts {P : Program} {t : TypeId} {i : TI} (h : tyOf P t = some i) : ∃ inf z d, P.info? t = some inf ∧ P.underlying t = some d ∧ inf.zero = some z ∧ z.cells.size = i.size ∧ inf.size = i.size ∧ inf.bytes = i.bytes ∧ i.k = TK.of P d ∧ i.zero = z.cells.toList.map const1 ∧ TK.of P d ≠ .other := by
  unfold tyOf at h
  split at h
  · rename_i inf d hi hd
    split at h
    · rename_i z hz
      split at h
      · cases h
      · rename_i k hk
        split at h
        · rename_i hs
          injection h with h; subst h
          exact ⟨inf, z, d, hi, hd, hz, hs, rfl, rfl, rfl, rfl, hk⟩
        · cases h
    · cases h
  · cases h
theorem zero_sound (γ : Gh) (w : World) (z : Value) : RAs γ w (z.cells.toList.map const1) z.cells := by
  refine ⟨by simp, fun i h1 h2 => ?_⟩
  simp only [List.getElem_map, Array.getElem_toList]
  exact const1_sound γ w _
theorem of_slice {P : Program} {d : TypeDesc} {e : TypeId} (h : TK.of P d = .slice e) : d = .slice e := by
  unfold TK.of at h; split at h <;> first | (injection h with h; subst h; rfl) | (split at h <;> cases h) | cases h
theorem of_array {P : Program} {d : TypeDesc} {n e} (h : TK.of P d = .array n e) : d = .array n e := by
  unfold TK.of at h; split at h <;> first | (injection h with h h'; subst h; subst h'; rfl) | (split at h <;> cases h) | cases h
theorem of_int {P : Program} {d : TypeDesc} {k} (h : TK.of P d = .int k) : d = .int k := by
  unfold TK.of at h; split at h <;> first | (injection h with h; subst h; rfl) | (split at h <;> cases h) | cases h
theorem of_bool {P : Program} {d : TypeDesc} (h : TK.of P d = .bool) : d = .bool := by
  unfold TK.of at h; split at h <;> first | rfl | (split at h <;> cases h) | cases h
theorem of_str {P : Program} {d : TypeDesc} (h : TK.of P d = .str) : d = .string := by
  unfold TK.of at h; split at h <;> first | rfl | (split at h <;> cases h) | cases h
theorem of_ptr {P : Program} {d : TypeDesc} {e} (h : TK.of P d = .ptr e) : d = .pointer e := by
  unfold TK.of at h; split at h <;> first | (injection h with h; subst h; rfl) | (split at h <;> cases h) | cases h
theorem of_struct {P : Program} {d : TypeDesc} {fs} (h : TK.of P d = .struct fs) : ∃ gs, d = .struct gs ∧ (gs.all (fun f => (P.info? f.type).isSome && P.cellsOf f.type != 0)) = true ∧ fs = gs.toList.map fun f => (f.offset, f.type, P.cellsOf f.type) := by
  unfold TK.of at h
  split at h <;> try cases h
  rename_i gs
  split at h
  · rename_i hg; injection h with h; exact ⟨gs, rfl, hg, h.symm⟩
  · cases h
def aggD : TypeDesc → Bool
  | .struct _ | .array _ _ => true
  | _ => false
theorem isAgg_run {P : Program} {t : TypeId} {d : TypeDesc} (hd : P.underlying t = some d) (w : World) : (isAgg t).run P w = .ok (aggD d) w := by
  unfold isAgg
  rw [Sem.run_bind, run_underlying hd w]
  cases d <;> simp [aggD]
theorem agg_of {P : Program} (d : TypeDesc) (hk : TK.of P d ≠ .other) : (TK.of P d).agg = aggD d := by
  cases d <;> first | rfl | skip
  · rename_i fs
    unfold TK.of at *
    simp only at *
    split <;> simp_all [TK.agg, aggD]
end Go.Ab
