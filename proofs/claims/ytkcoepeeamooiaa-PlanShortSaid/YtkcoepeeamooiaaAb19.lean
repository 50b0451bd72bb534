/- Regions in a round of a range over a function, and around it: the run over abstract states is sound there as well. -/
import Derived.Test.YtkcoepeeamooiaaAb14
import Derived.RangeFuncNested
import Derived.RangeFuncBound
import Derived.RangeFuncCalls
import Derived.RangeFuncLeaves
import Derived.RangeFuncFrom
set_option linter.unusedVariables false
set_option linter.unusedSimpArgs false
namespace Go.Ab
open Go Classical Go.RowKit

section
variable {P : Program} {ty : TypeId → Option TI} (hty : ∀ t i, ty t = some i → tyOf P t = some i) {tb n0 : Nat} {γ0 γ : Gh} {w0 w : World} {o : Oper} {fr : Fr} {H : Hp} {a : Act} {K : AV → Fr → Hp → Prop}

include hty in
/-- An operation that is no call of a function value. -/
theorem op_done (s : St γ0 w0 n0 γ fr H a w) (hv : ∀ f xs ts, o.op ≠ .call { callee := .value f, args := xs, argTypes := ts }) (h : opx P ty tb n0 o fr H K) : Done P γ0 w0 a w o K := by
  cases ho : o.op with
  | move x => exact (op_move (P := P) (tb := tb) (ty := ty) s x (.inl ho) h)
  | assign x => exact (op_move (P := P) (tb := tb) (ty := ty) s x (.inr ho) h)
  | pick c x y => exact (op_pick (P := P) (tb := tb) (ty := ty) s c x y ho h)
  | alloc e => exact (op_alloc hty s e ho h)
  | box e x => exact (op_box (P := P) (tb := tb) (ty := ty) s e x ho h)
  | build t ps => exact (op_build hty s t ps ho h)
  | buildSlice t n ps => exact (op_buildSlice hty s t n ps ho h)
  | load t x => exact (op_load hty s t x ho h)
  | store t x v => exact (op_store hty s t x v ho h)
  | nilCheck x => exact (op_nilCheck (P := P) (tb := tb) (ty := ty) s x ho h)
  | binOp op t x y yt => exact (op_binOp hty s op t yt x y ho h)
  | unOp u t x => exact (op_unOp (P := P) (tb := tb) (ty := ty) s u t x ho h)
  | convert t' t x => exact (op_convert hty s t' t x ho h)
  | makeFunc fn first caps =>
    cases fn with
    | func f => exact (op_makeFunc (P := P) (tb := tb) (ty := ty) s f first caps ho h)
    | _ => unfold opx at h; rw [ho] at h; exact h.elim
  | fieldAddr t x f => exact (op_fieldAddr hty s t x f ho h)
  | indexAddr t x ix => exact (op_indexAddr hty s t x ix ho h)
  | slice t x lo hi mx =>
    have h' := h
    unfold opx at h'; rw [ho] at h'
    simp only at h'
    split at h'
    · rename_i i hi'
      have h'' := h'
      unfold slicex at h''
      split at h''
      · rename_i n e hik; exact (op_slice_arr hty s t x lo hi mx ho i n e hi' hik h)
      · rename_i e hik; exact (op_slice_sl hty s t x lo hi mx ho i e hi' hik h)
      · exact h''.elim
    · exact h'.elim
  | extract x i => exact (op_extract (P := P) (tb := tb) (ty := ty) s x i ho h)
  | call c =>
    obtain ⟨callee, args, ts⟩ := c
    cases callee with
    | builtin b =>
      cases b with
      | len => exact (op_len hty s args ts ho h)
      | append => exact (op_append hty s args ts ho h)
      | max => exact (op_max (P := P) (tb := tb) (ty := ty) s true args ts ho h)
      | min => exact (op_max (P := P) (tb := tb) (ty := ty) s false args ts ho h)
      | _ => unfold opx at h; rw [ho] at h; exact h.elim
    | invoke r n => unfold opx at h; rw [ho] at h; exact h.elim
    | value f => exact absurd ho (hv f args ts)
  | _ => unfold opx at h; rw [ho] at h; exact h.elim

def noCall (o : Oper) : Bool :=
  match o.op with
  | .call { callee := .value _, .. } | .defer _ => false
  | _ => true
include hty in
theorem rxIn_sound {F : Fence} {n : Nat} (hF : ∀ f, F.fn f) {ops : Array Oper} {K : Fr → Hp → Prop} {Q : Exit → Act → World → Prop} (M : Act → Prop) (hM : ∀ a o v, o ∈ ops.toList → M a → M (a.put o.dst v)) (hQ : ∀ γ fr H a w, St γ0 w0 n0 γ fr H a w → K fr H → M a → Q .normal a w) :
    ∀ (rest : List Oper) (i : Nat) {γ : Gh} {fr : Fr} {H : Hp} {a : Act} {w : World}, ops.toList.drop i = rest → rest.all noCall = true → rx P ty tb n0 ops rest fr H K → St γ0 w0 n0 γ fr H a w → M a → wpOpsIn F n P ops Q ((List.range ops.size).drop i) a w
  | [], i, γ, fr, H, a, w, hd, hn, h, s, hm => by
    have : ops.size ≤ i := by
      have := List.drop_eq_nil_iff.1 hd; simpa using this
    rw [List.drop_eq_nil_of_le (by simpa using this)]
    exact hQ γ fr H a w s h hm
  | o :: rest, i, γ, fr, H, a, w, hd, hn, h, s, hm => by
    have hlt : i < ops.size := by
      rcases Nat.lt_or_ge i ops.size with hl | hl
      · exact hl
      · rw [List.drop_eq_nil_of_le (by simpa using hl)] at hd; cases hd
    have hd' : ops.toList.drop i = ops[i] :: ops.toList.drop (i + 1) := by
      rw [List.drop_eq_getElem_cons (by simpa using hlt)]; simp
    rw [hd'] at hd
    injection hd with hd1 hd2
    have hr : (List.range ops.size).drop i = i :: (List.range ops.size).drop (i + 1) := by
      rw [List.drop_eq_getElem_cons (by simpa using hlt)]; simp
    rw [hr]
    simp only [wpOpsIn, Array.getElem?_eq_getElem hlt, hd1]
    unfold rx at h
    simp only [List.all_cons, Bool.and_eq_true] at hn
    have go : ∀ {γ' : Gh} {fr' : Fr} {H' : Hp} {v : Value} {r : AV} {w' : World}, rx P ty tb n0 ops rest (match o.dst with | some t => fr'.set t r | none => fr') H' K → Inv γ' H' w' → RAs γ' w' fr' a.tmps → RA γ' w' r v → Evo γ0 w0 γ' w' → wpOpsIn F n P ops Q ((List.range ops.size).drop (i + 1)) (a.put o.dst v) w' :=
      fun hk h1 h2 h3 h4 => rxIn_sound hF M hM hQ rest (i + 1) hd2 hn.2 hk ⟨s.own0, s.n0, h1, put_sound h2 o.dst h3, h4, by rw [put_defers]; exact s.defers⟩ (hM a o _ (by rw [← hd1]; simp) hm)
    rcases guard_sound s.fr h with ⟨hw, fr1, hf1, hy⟩ | ⟨hw, fr1, hf1, hs⟩
    · rw [if_pos hw]
      have hnc : ∀ f xs ts, o.op ≠ .call { callee := .value f, args := xs, argTypes := ts } := fun f xs ts e => by simp [noCall, e] at hn
      have hnd : ∀ c, o.op ≠ .defer c := fun c e => by simp [noCall, e] at hn
      obtain ⟨res, v, w', γ', r, fr', H', h1, h2, h3, h4, h5, h6, h7⟩ := op_done hty (o := o) ⟨s.own0, s.n0, s.inv, hf1, s.evo, s.defers⟩ hnc hy
      rw [forceA_eq, putx_eq] at h7
      refine ⟨fun f _ => hF f, ?_⟩
      rw [Oper.semAt_eq _ _ _ hnd, h1]
      rcases h2 with rfl | ⟨rfl, rfl⟩
      · rw [Oper.uponIn_value]; exact go h7 h3 h4 h5 h6
      · rw [Oper.uponIn_skip]; exact go h7 h3 h4 h5 h6
    · rw [if_neg (by simp [hw])]
      rw [putx_eq] at hs
      exact ⟨fun f _ => hF f, go hs s.inv hf1 (.tup [] #[] rfl (fun i h1 => by simp at h1)) s.evo⟩
include hty in
/-- A region without calls of function values. -/
theorem region_in {F : Fence} {n : Nat} (hF : ∀ f, F.fn f) {id : Nat} {ops : Array Oper} {K : Fr → Hp → Prop} {Q : Exit → Act → World → Prop} (M : Act → Prop) (hM : ∀ a o v, o ∈ ops.toList → M a → M (a.put o.dst v)) (hQ : ∀ γ fr H a w, St γ0 w0 n0 γ fr H a w → K fr H → M a → Q .normal a w)
    (hn : ops.toList.all noCall = true) (h : rx P ty tb n0 ops ops.toList fr H K) (s : St γ0 w0 n0 γ fr H a w) (hm : M a) : (Code.region id ops false).wpIn F n P Q a w :=
  wpIn_region (by
    have := rxIn_sound hty hF M hM hQ (n := n) ops.toList 0 rfl hn h s hm
    simpa using this)
/-- A slot that no operation of the region turns. -/
theorem slot_kept {ops : Array Oper} {t : Nat} {v : Value} (h : ops.toList.all (fun o => o.dst != some t) = true) : ∀ (a : Act) (o : Oper) (u : Value), o ∈ ops.toList → a.tmps[t]? = some v → (a.put o.dst u).tmps[t]? = some v := by
  intro a o u ho ha
  have h1 := List.all_eq_true.1 h o ho
  cases hd : o.dst with
  | none => exact ha
  | some d =>
    have hne : d ≠ t := fun e => by simp [hd, e] at h1
    simp only [Act.put]
    rw [Array.getElem?_setIfInBounds_ne hne]; exact ha
/-- No ghosts. -/
def Gh.none : Gh := ⟨fun _ => Option.none, fun _ => Option.none⟩
theorem St.fresh {fr : Fr} {a : Act} {w : World} (hf : RAs Gh.none w fr a.tmps) (hd : a.defers = []) : St Gh.none w 0 Gh.none fr [] a w :=
  ⟨fun b x h => by simp [Gh.none] at h, fun i b h => by simp [Gh.none] at h, ⟨fun i b h => by simp [Gh.none] at h, fun i B h => by simp at h, fun i j b h => by simp [Gh.none] at h, fun b x h => by simp [Gh.none] at h, fun b g l h => by simp [Gh.none] at h⟩, hf, Evo.refl _ _, hd⟩
theorem not_row {w : World} {row : Option Nat} (hr : ∀ r, row = some r → ∃ o : Obj, w.heap[r]? = some o ∧ o.isCells = false) {b : Nat} {cs : Array Value} {e : TypeId} {f : Nat × Nat} (h : w.heap[b]? = some (.cells cs e f)) : some b ≠ row := fun e' => by
  obtain ⟨o, h1, h2⟩ := hr b e'.symm
  rw [h] at h1; injection h1 with h1; subst h1
  simp [Obj.isCells] at h2
/-- The state abides the turn of a new block that holds no cells. -/
theorem St.grown {w' : World} {row : Option Nat} (s : St γ0 w0 n0 γ fr H a w) (hg : w.grownBy w' row) (hr : ∀ r, row = some r → w0.heap.size ≤ r ∧ ∃ o : Obj, w.heap[r]? = some o ∧ o.isCells = false) : St γ0 w0 n0 γ fr H a w' := by
  have hr' : ∀ r, row = some r → ∃ o : Obj, w.heap[r]? = some o ∧ o.isCells = false := fun r e => (hr r e).2
  have cellb : ∀ {b : Nat} {cs : Array Value} {e : TypeId} {f : Nat × Nat}, w.heap[b]? = some (Obj.cells cs e f) → w'.heap[b]? = w.heap[b]? := fun {b cs e f} h => hg.block b (Array.getElem?_eq_some_iff.1 h).1 (not_row hr' h)
  have hx : Ext no no γ w γ w' := by
    refine ⟨fun b o v h1 h2 => ⟨h1, ?_⟩, fun _ _ _ h => h, fun b g l cs e _ h1 h2 => ⟨h1, cs, by rw [cellb h2]; exact h2, rfl⟩⟩
    have hc : ∃ (cs : Array Value) (e : TypeId) (f : Nat × Nat), w.heap[b]? = some (Obj.cells cs e f) := by
      unfold World.cell? at h2
      cases hb : w.heap[b]? with
      | none => simp [hb] at h2
      | some ob =>
        cases ob with
        | cells cs e f => exact ⟨cs, e, f, rfl⟩
        | _ => simp [hb] at h2
    obtain ⟨cs, e, f, hc⟩ := hc
    rw [World.cell?_of_block (w := w) (a := ⟨b, o, none⟩) (cellb hc)]; exact h2
  have hlow : ∀ b, b < w0.heap.size → w'.heap[b]? = w.heap[b]? := fun b hb => hg.block b (by have := s.evo.size; omega) (fun e => by have := (hr b e.symm).1; omega)
  refine ⟨s.own0, s.n0, s.inv.keep hx hg.size (fun i b hi => ?_), s.fr.mono hx (cleans_no _), ⟨hg.os.trans s.evo.os, hg.tape.trans s.evo.tape, hg.output.trans s.evo.output, Nat.le_trans s.evo.size hg.size, fun b hb h1 h2 => ?_, fun b g l h1 => ?_, s.evo.live, s.evo.new, s.evo.nown⟩, s.defers⟩
  · obtain ⟨B, hB⟩ := s.inv.dom i b hi
    obtain ⟨b', cs, k1, k2, _⟩ := s.inv.blk i B hB
    rw [hi] at k1; injection k1 with k1; subst k1
    exact cellb k2
  · obtain ⟨k1, k2⟩ := s.evo.same b hb h1 h2
    exact ⟨(hlow b hb).trans k1, k2⟩
  · obtain ⟨k1, k2⟩ := s.evo.tip b g l h1
    refine ⟨fun cs e hb => ?_, k2⟩
    obtain ⟨cs', j1, j2, j3⟩ := k1 cs e hb
    exact ⟨cs', by rw [hlow b (s.own0 b _ h1).1]; exact j1, j2, j3⟩
end
end Go.Ab
