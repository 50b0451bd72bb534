/- The run over abstract states is sound: operations, part two. -/
import Derived.Test.YtkcoepeeamooiaaAb5
set_option linter.unusedVariables false
set_option linter.unusedSimpArgs false
namespace Go.Ab
open Go

theorem Ext.trans {γ γ1 γ2 : Gh} {w w1 w2 : World} (h : Ext no no γ w γ1 w1) (k : Ext no no γ1 w1 γ2 w2) : Ext no no γ w γ2 w2 :=
  ⟨fun b o v h1 h2 => k.ok b o v (h.ok b o v h1 h2).1 (h.ok b o v h1 h2).2, fun i b _ hi => k.live i b rfl (h.live i b rfl hi), fun b g l cs e _ h1 h2 => by
    obtain ⟨a1, cs1, a2, a3⟩ := h.tip b g l cs e rfl h1 h2
    obtain ⟨b1, cs2, b2, b3⟩ := k.tip b g l cs1 e rfl a1 a2
    exact ⟨b1, cs2, b2, b3.trans a3⟩⟩

section
variable {P : Program} {ty : TypeId → Option TI} (hty : ∀ t i, ty t = some i → tyOf P t = some i) {tb n0 : Nat} {γ0 γ : Gh} {w0 w : World} {o : Oper} {fr : Fr} {H : Hp} {a : Act} {K : AV → Fr → Hp → Prop}

theorem store_cells {γ : Gh} {id b off : Nat} (hl : γ.live id = some b) : ∀ (cs : List AV) (vs : List Value) (i : Nat) (H : Hp) (w : World) (B : Blk), Inv γ H w → H[id]? = some (some B) → cs.length = vs.length → off + i + cs.length ≤ B.cells.length →
    (∀ j (h1 : j < cs.length) (h2 : j < vs.length), RA γ w cs[j] vs[j] ∧ cs[j].one = true) →
    ∃ w', (storeCells ⟨b, off, none⟩ vs i).run P w = .ok () w' ∧ Inv γ (H.set id (some { B with cells := setAll B.cells (off + i) cs })) w' ∧ Ext no no γ w γ w' ∧ Evo γ w γ w'
  | [], [], i, H, w, B, hI, hB, _, _, _ => by
    refine ⟨w, by simp [storeCells], ?_, Ext.refl _ _, Evo.refl _ _⟩
    have : H.set id (some { B with cells := setAll B.cells (off + i) [] }) = H := by
      apply List.ext_getElem?
      intro k
      by_cases e : id = k
      · subst e; rw [List.getElem?_set_self (List.getElem?_eq_some_iff.1 hB).1, hB]; rfl
      · rw [List.getElem?_set_ne e]
    rw [this]; exact hI
  | c :: cs, v :: vs, i, H, w, B, hI, hB, hlen, hle, hr => by
    obtain ⟨hr0, ho0⟩ := hr 0 (by simp) (by simp)
    simp only [List.getElem_cons_zero] at hr0 ho0
    obtain ⟨k1, k2, k3⟩ := step_store hI (o := off + i) hl hB c v hr0
    obtain ⟨b', cs', e1, e2, e3, e4⟩ := hI.blk id B hB
    rw [hl] at e1; injection e1 with e1; subst e1
    have hlt : off + i < cs'.size := by rw [← e3]; simp at hle; omega
    have hcell : w.cell? ⟨b, off + i, none⟩ = some cs'[off + i] := by rw [cell_of_heap e2]; simp [hlt]
    have hfro : w.frozen? ⟨b, off + i, none⟩ = false := frozen_of_heap e2
    have hst : (store ((⟨b, off, none⟩ : Addr).add i) v).run P w = .ok () (w.setCell ⟨b, off + i, none⟩ v) := by
      rw [addr_add, run_store P w _ v _ (one_sound hr0 ho0), hcell]; simp [hfro]
    obtain ⟨w', r1, r2, r3, r4⟩ := store_cells (γ := γ) (off := off) hl cs vs (i + 1) _ _ _ k1 (by rw [List.getElem?_set_self (List.getElem?_eq_some_iff.1 hB).1]) (by simpa using hlen) (by simp at hle ⊢; omega)
      (fun j h1 h2 => by
        obtain ⟨p1, p2⟩ := hr (j + 1) (by simpa using h1) (by simpa using h2)
        simp only [List.getElem_cons_succ] at p1 p2
        exact ⟨p1.mono k2 (AV.clean_no' _), p2⟩)
    refine ⟨w', by simp only [storeCells, Sem.run_bind, hst, Result.andThen_ok, r1], ?_, k2.trans r3, k3.trans hI.own r4⟩
    simpa [setAll, Nat.add_assoc] using r2
include hty in
theorem op_store (s : St γ0 w0 n0 γ fr H a w) (t : TypeId) (x v : Operand) (ho : o.op = .store t x v) (h : opx P ty tb n0 o fr H K) : Done P γ0 w0 a w o K := by
  unfold opx at h; rw [ho] at h
  simp only at h
  have hx := eval_sound s.fr x
  have hv := eval_sound s.fr v
  generalize hxv : a.eval x = xv at hx
  generalize hvv : a.eval v = vv at hv
  split at h
  · rename_i i id off cs hi he hc
    rw [he] at hx
    obtain ⟨inf, z, d, h1, h2, h3, h4, h5, h6, h7, h8, h9⟩ := ty_parts (hty _ _ hi)
    split at h
    · rename_i B hB
      obtain ⟨⟨l1, l2, l3⟩, hk⟩ := h
      rw [seqA_eq, setF_eq] at hk
      cases hx with
      | ptr _ _ b hl =>
        have hcs := cells_sound hv hc
        obtain ⟨w', r1, r2, r3, r4⟩ := store_cells (P := P) (off := off) hl cs vv.cells.toList 0 H w B s.inv hB (by simpa using hcs.1) (by omega)
          (fun j j1 j2 => ⟨by simpa using hcs.2 j j1 (by simpa using j2), List.all_eq_true.1 l3 _ (List.getElem_mem j1)⟩)
        refine ⟨.skip, undef, w', γ, .tup [], fr, _, ?_, .inr ⟨rfl, rfl⟩, r2, s.fr.mono r3 (cleans_no _), .tup [] #[] rfl (fun i h1 => by simp at h1), s.evo.trans s.own0 r4, hk⟩
        have hsz : vv.cells.size = inf.size := by rw [← hcs.1, l1, h5]
        simp [execOp, ho, hxv, hvv, Instr.storeAt, Instr.sureAddr, storeVar, Go.sizeOf, typeInfo, h1, hsz, r1]
    · exact h.elim
  · exact h.elim
theorem op_nilCheck (s : St γ0 w0 n0 γ fr H a w) (x : Operand) (ho : o.op = .nilCheck x) (h : opx P ty tb n0 o fr H K) : Done P γ0 w0 a w o K := by
  unfold opx at h; rw [ho] at h
  simp only at h
  have hx := eval_sound s.fr x
  generalize hxv : a.eval x = xv at hx
  split at h
  · rename_i id off he
    rw [he] at hx
    cases hx with
    | ptr _ _ b hl => exact done_val s _ _ (by simp [execOp, ho, hxv]) (.ptr _ _ b hl) h
  · rename_i cs he
    rw [he] at hx
    cases hx with
    | rp _ b off f h1 h2 h3 => exact done_val s _ _ (by simp [execOp, ho, hxv]) (.rp _ b off f h1 h2 h3) h
  · exact h.elim
theorem op_makeFunc (s : St γ0 w0 n0 γ fr H a w) (f : FuncId) (first caps : Array Operand) (ho : o.op = .makeFunc (.func f) first caps) (h : opx P ty tb n0 o fr H K) : Done P γ0 w0 a w o K := by
  unfold opx at h; rw [ho] at h
  simp only at h
  split at h
  · rename_i hf
    rw [seqA_eq] at h
    obtain rfl : first = #[] := Array.eq_empty_of_size_eq_zero hf
    have hcs := evals_sound s.fr caps
    exact done_val s (.func (.func f) #[] (caps.map a.eval)) _ (by simp [execOp, ho, Instr.makeFunc]) (.fn f _ _ hcs.1 hcs.2) h
  · exact h.elim
include hty in
theorem op_fieldAddr (s : St γ0 w0 n0 γ fr H a w) (t : TypeId) (x : Operand) (f : Nat) (ho : o.op = .fieldAddr t x f) (h : opx P ty tb n0 o fr H K) : Done P γ0 w0 a w o K := by
  unfold opx at h; rw [ho] at h
  simp only at h
  have hx := eval_sound s.fr x
  generalize hxv : a.eval x = xv at hx
  have key : ∀ {fs : List (Nat × TypeId × Nat)} {size bytes : Nat} {zero : List AV} {p : Nat × TypeId × Nat} (b off : Nat), ty t = some ⟨.struct fs, size, bytes, zero⟩ → fs[f]? = some p → (Instr.fieldAt t (.pointer (some ⟨b, off, none⟩)) f).run P w = .ok (.pointer (some ⟨b, off + p.1, none⟩)) w := by
    intro fs size bytes zero p b off hi hp
    obtain ⟨inf, z, d, h1, h2, h3, h4, h5, h6, h7, h8, h9⟩ := ty_parts (hty _ _ hi)
    simp only at h7
    obtain ⟨gs, rfl, hall, rfl⟩ := of_struct h7.symm
    rw [List.getElem?_map] at hp
    obtain ⟨g, hg, rfl⟩ := Option.map_eq_some_iff.1 hp
    have hg' : gs[f]? = some g := by simpa using hg
    obtain ⟨hlt, hge⟩ := Array.getElem?_eq_some_iff.1 hg'
    have ha := Array.all_eq_true.1 hall f hlt
    rw [hge] at ha
    simp only [Bool.and_eq_true, bne_iff_ne, ne_eq] at ha
    obtain ⟨inf', hinf'⟩ := Option.isSome_iff_exists.1 ha.1
    have hsz : inf'.size ≠ 0 := by have := ha.2; simpa [Program.cellsOf, hinf'] using this
    simp [Instr.fieldAt, run_underlying h2, hg', Instr.sureAddr, fieldPlace, Go.sizeOf, typeInfo, hinf', hsz, addr_add]
  split at h
  · rename_i fs size bytes zero id off hi he
    rw [he] at hx
    split at h
    · rename_i p hp
      cases hx with
      | ptr _ _ b hl =>
        exact done_val s (.pointer (some ⟨b, off + p.1, none⟩)) _ (by simp [execOp, ho, hxv, key b off hi hp]) (.ptr _ _ b hl) h
    · exact h.elim
  · rename_i fs size bytes zero cs hi he
    rw [he] at hx
    split at h
    · rename_i p hp
      rw [seqD_eq] at h
      cases hx with
      | rp _ b off f' h1 h2 h3 =>
        refine done_val s (.pointer (some ⟨b, off + p.1, none⟩)) _ (by simp [execOp, ho, hxv, key b off hi hp]) (.rp _ b (off + p.1) (fun j => f' (p.1 + j)) (fun j hj => ?_) (fun j hj => ?_) (fun j hj => ?_)) h
        · simp only [List.getElem_drop]; exact h1 _ _
        · simp only [List.length_drop] at hj
          rw [Nat.add_assoc]; exact h2 (p.1 + j) (by omega)
        · simp only [List.getElem_drop]; exact h3 _ _
    · exact h.elim
  · exact h.elim
theorem op_extract (s : St γ0 w0 n0 γ fr H a w) (x : Operand) (i : Nat) (ho : o.op = .extract x i) (h : opx P ty tb n0 o fr H K) : Done P γ0 w0 a w o K := by
  unfold opx at h; rw [ho] at h
  simp only at h
  have hx := eval_sound s.fr x
  generalize hxv : a.eval x = xv at hx
  split at h
  · rename_i vs he
    rw [he] at hx
    split at h
    · rename_i v hv
      cases hx with
      | tup _ us hl hh =>
        obtain ⟨hlt, rfl⟩ := List.getElem?_eq_some_iff.1 hv
        have hlt' : i < us.size := by omega
        exact done_val s us[i] _ (by simp [execOp, ho, hxv, Instr.extract, hlt']) (hh i hlt hlt') h
    · exact h.elim
  · exact h.elim
include hty in
theorem op_convert (s : St γ0 w0 n0 γ fr H a w) (t' t : TypeId) (x : Operand) (ho : o.op = .convert t' t x) (h : opx P ty tb n0 o fr H K) : Done P γ0 w0 a w o K := by
  unfold opx at h; rw [ho] at h
  simp only at h
  have hx := eval_sound s.fr x
  generalize hxv : a.eval x = xv at hx
  split at h
  · rename_i hi' hi he
    rw [he] at hx
    obtain ⟨inf, z, d, h1, h2, h3, h4, h5, h6, h7, h8, h9⟩ := ty_parts (hty _ _ hi)
    obtain ⟨inf', z', d', g1, g2, g3, g4, g5, g6, g7, g8, g9⟩ := ty_parts (hty _ _ hi')
    simp only at h7
    obtain rfl := of_int h7.symm
    cases hx with
    | d _ _ hd =>
      cases hd
      exact done_val s _ _ (by simp [execOp, ho, hxv, convert, run_underlying h2, run_underlying g2, Conv.intToInt]) (.d _ _ (.int _ _)) h
  · split at h
    · rename_i l hie hl
      obtain ⟨inf, z, d, h1, h2, h3, h4, h5, h6, h7, h8, h9⟩ := ty_parts (hty t _ (by assumption))
      obtain ⟨inf', z', d', g1, g2, g3, g4, g5, g6, g7, g8, g9⟩ := ty_parts (hty t' _ (by assumption))
      obtain ⟨inf'', z'', d'', k1, k2, k3, k4, k5, k6, k7, k8, k9⟩ := ty_parts (hty _ _ hie)
      simp only at h7 g7 k7
      obtain rfl := of_str h7.symm
      obtain rfl := of_slice g7.symm
      obtain rfl := of_int k7.symm
      have hL := toL_sound hx hl
      have hrun : (convert t' t xv).run P w = .ok (.string (strOfNums l)) w := by
        cases hL with
        | emp _ A cap hl0 =>
          obtain rfl : l = [] := List.eq_nil_of_length_eq_zero (by simpa [L.len] using hl0)
          cases A with
          | none => exact run_convert_bytes_nil w t' _ g2 k2 0 cap t h2
          | some a' => simp [convert, run_underlying h2, run_underlying g2, run_underlying k2, Conv.bytesToString, loadCells, loadCellsFrom]; rfl
        | row _ b off cap f hc hm hz hone hcell hrd =>
          refine run_convert_bytes_arg w t' _ g2 k2 b off _ cap l rfl (fun j hj => ?_) t h2
          have h1 := (hcell j 0 hj (by simp [L.size])).2
          have h2 := hrd j 0 hj (by simp [L.row])
          simp only [L.row, List.getElem_cons_zero] at h2
          simp only [L.size, Nat.mul_one, Nat.add_zero] at h1
          generalize hfj : f j 0 = fj at h1 h2
          cases h2
          exact h1
      exact done_val s (.string (strOfNums l)) _ (by simp [execOp, ho, hxv, hrun]) (.d _ _ (.str _)) h
    · exact h.elim
  · exact h.elim
theorem op_unOp (s : St γ0 w0 n0 γ fr H a w) (u : UnOp) (t : TypeId) (x : Operand) (ho : o.op = .unOp u t x) (h : opx P ty tb n0 o fr H K) : Done P γ0 w0 a w o K := by
  unfold opx at h; rw [ho] at h
  simp only at h
  have hx := eval_sound s.fr x
  generalize hxv : a.eval x = xv at hx
  split at h
  · rename_i b he
    rw [he] at hx
    cases hx with
    | d _ _ hd => cases hd; exact done_val s (.bool !b) _ (by simp [execOp, ho, hxv, Op.unary]) (.d _ _ (.bool _)) h
  · rename_i k n he
    rw [he] at hx
    cases hx with
    | d _ _ hd => cases hd; exact done_val s (.int k (k.wrap (0 - n))) _ (by simp [execOp, ho, hxv, Op.unary, Op.intArith]) (.d _ _ (.int _ _)) h
  · rename_i k n he
    rw [he] at hx
    cases hx with
    | d _ _ hd => cases hd; exact done_val s (.int k (ibits .xor k (if k.signed then -1 else k.max) n)) _ (by simp [execOp, ho, hxv, Op.unary, Op.intBits, ibits]) (.d _ _ (.int _ _)) h
  · exact h.elim
end
end Go.Ab
