/- The run over abstract states is sound: operations. -/
import Derived.Test.YtkcoepeeamooiaaAb4
set_option linter.unusedVariables false
set_option linter.unusedSimpArgs false
namespace Go.Ab
open Go

/-- What an operation that is no call comes to. -/
def Done (P : Program) (γ0 : Gh) (w0 : World) (a : Act) (w : World) (o : Oper) (K : AV → Fr → Hp → Prop) : Prop :=
  ∃ res v w' γ' r fr' H', (execOp a.eval o).run P w = .ok res w' ∧ (res = .value v ∨ (res = .skip ∧ v = undef)) ∧ Inv γ' H' w' ∧ RAs γ' w' fr' a.tmps ∧ RA γ' w' r v ∧ Evo γ0 w0 γ' w' ∧ K r fr' H'
/-- A state of the run. -/
structure St (γ0 : Gh) (w0 : World) (n0 : Nat) (γ : Gh) (fr : Fr) (H : Hp) (a : Act) (w : World) : Prop where
  own0 : ∀ b x, γ0.own b = some x → b < w0.heap.size ∧ ∀ i, γ0.live i ≠ some b
  n0 : ∀ i b, γ0.live i = some b → i < n0
  inv : Inv γ H w
  fr : RAs γ w fr a.tmps
  evo : Evo γ0 w0 γ w
  defers : a.defers = []

section
variable {P : Program} {ty : TypeId → Option TI} (hty : ∀ t i, ty t = some i → tyOf P t = some i) {tb n0 : Nat} {γ0 γ : Gh} {w0 w : World} {o : Oper} {fr : Fr} {H : Hp} {a : Act} {K : AV → Fr → Hp → Prop}

theorem done_val (s : St γ0 w0 n0 γ fr H a w) (v : Value) (r : AV) (hr : (execOp a.eval o).run P w = .ok (.value v) w) (ha : RA γ w r v) (hk : K r fr H) : Done P γ0 w0 a w o K :=
  ⟨_, v, w, γ, r, fr, H, hr, .inl rfl, s.inv, s.fr, ha, s.evo, hk⟩
theorem done_step (s : St γ0 w0 n0 γ fr H a w) {w' : World} {γ' : Gh} {H' : Hp} (v : Value) (r : AV) (hr : (execOp a.eval o).run P w = .ok (.value v) w') (hi : Inv γ' H' w') (hx : Ext no no γ w γ' w') (he : Evo γ w γ' w') (ha : RA γ' w' r v) (hk : K r fr H') : Done P γ0 w0 a w o K :=
  ⟨_, v, w', γ', r, fr, H', hr, .inl rfl, hi, s.fr.mono hx (cleans_no _), ha, s.evo.trans s.own0 he, hk⟩

theorem op_move (s : St γ0 w0 n0 γ fr H a w) (x : Operand) (ho : o.op = .move x ∨ o.op = .assign x) (h : opx P ty tb n0 o fr H K) : Done P γ0 w0 a w o K := by
  rcases ho with ho | ho
  all_goals
    unfold opx at h; rw [ho] at h
    exact done_val s (a.eval x) _ (by simp [execOp, ho]) (eval_sound s.fr x) h
theorem op_pick (s : St γ0 w0 n0 γ fr H a w) (c x y : Operand) (ho : o.op = .pick c x y) (h : opx P ty tb n0 o fr H K) : Done P γ0 w0 a w o K := by
  unfold opx at h; rw [ho] at h
  simp only at h
  have hc := eval_sound s.fr c
  split at h
  · rename_i t he
    rw [he] at hc
    generalize hv : a.eval c = cv at hc
    cases hc with
    | d _ _ hc =>
      cases hc
      cases t with
      | true => exact done_val s (a.eval x) _ (by simp [execOp, ho, hv, asBool]) (eval_sound s.fr x) h
      | false => exact done_val s (a.eval y) _ (by simp [execOp, ho, hv, asBool]) (eval_sound s.fr y) h
  · exact h.elim
theorem alloc_new (w : World) (o : Obj) : (w.alloc o) = { w with heap := w.heap.push o } := rfl
include hty in
theorem op_alloc (s : St γ0 w0 n0 γ fr H a w) (e : TypeId) (ho : o.op = .alloc e) (h : opx P ty tb n0 o fr H K) : Done P γ0 w0 a w o K := by
  unfold opx at h; rw [ho] at h
  simp only at h
  split at h
  · rename_i i hi
    rw [lenF_eq, snocF_eq] at h
    obtain ⟨inf, z, d, h1, h2, h3, h4, h5, h6, h7, h8, h9⟩ := ty_parts (hty _ _ hi)
    obtain ⟨k1, k2, k3⟩ := step_live s.inv ⟨e, i.zero⟩ z.cells (by rw [h8]; exact zero_sound γ w z)
    refine done_step s (.pointer (some ⟨w.heap.size, 0, none⟩)) (.ptr H.length 0) ?_ k1 k2 k3 (.ptr _ _ _ (by simp [Gh.withLive])) (by simpa using h)
    simp [execOp, ho, Instr.alloc, zeroValue, typeInfo, h1, h3, newVar, newRow]
  · exact h.elim
theorem op_box (s : St γ0 w0 n0 γ fr H a w) (e : TypeId) (x : Operand) (ho : o.op = .box e x) (h : opx P ty tb n0 o fr H K) : Done P γ0 w0 a w o K := by
  unfold opx at h; rw [ho] at h
  simp only at h
  split at h
  · rename_i cs hc
    rw [seqA_eq, lenF_eq, snocF_eq] at h
    obtain ⟨k1, k2, k3⟩ := step_live s.inv ⟨e, cs⟩ (a.eval x).cells (cells_sound (eval_sound s.fr x) hc)
    refine done_step s (.pointer (some ⟨w.heap.size, 0, none⟩)) (.ptr H.length 0) ?_ k1 k2 k3 (.ptr _ _ _ (by simp [Gh.withLive])) (by simpa using h)
    simp [execOp, ho, Instr.box, newVar, newRow]
  · exact h.elim

theorem addr_add (b o n : Nat) : (⟨b, o, none⟩ : Addr).add n = ⟨b, o + n, none⟩ := by unfold Addr.add; split <;> simp_all
theorem load_cells (w : World) (b o n : Nat) (f : Nat → Value) (h : ∀ j, j < n → w.cell? ⟨b, o + j, none⟩ = some (f j)) : (loadCells ⟨b, o, none⟩ n).run P w = .ok ((List.range n).map f).toArray w := by
  have := run_loadCells_list (P := P) w ⟨b, o, none⟩ ((List.range n).map f) (fun j v hv => by
    rw [List.getElem?_map] at hv
    obtain ⟨j', hj', rfl⟩ := Option.map_eq_some_iff.1 hv
    obtain ⟨hlt, he⟩ := List.getElem?_eq_some_iff.1 hj'
    simp at hlt he; subst he
    rw [addr_add]; exact h j hlt)
  simpa using this
theorem run_loadVar_agg {t : TypeId} {inf : TypeInfo} {d : TypeDesc} (hi : P.info? t = some inf) (hd : P.underlying t = some d) (hg : aggD d = true) (w : World) (b o : Nat) (f : Nat → Value)
    (h : ∀ j, j < inf.size → w.cell? ⟨b, o + j, none⟩ = some (f j)) : (loadVar t ⟨b, o, none⟩).run P w = .ok (.agg ((List.range inf.size).map f).toArray) w := by
  unfold loadVar
  rw [Sem.run_bind, isAgg_run hd w, hg]
  simp [Go.sizeOf, typeInfo, hi, load_cells w b o inf.size f h]
theorem run_loadVar_one {t : TypeId} {d : TypeDesc} (hd : P.underlying t = some d) (hg : aggD d = false) (w : World) (b o : Nat) (v : Value) (h : w.cell? ⟨b, o, none⟩ = some v) :
    (loadVar t ⟨b, o, none⟩).run P w = .ok v w := by
  unfold loadVar
  rw [Sem.run_bind, isAgg_run hd w, hg]
  simp [load, Sem.run, h]

include hty in
theorem op_load (s : St γ0 w0 n0 γ fr H a w) (t : TypeId) (x : Operand) (ho : o.op = .load t x) (h : opx P ty tb n0 o fr H K) : Done P γ0 w0 a w o K := by
  unfold opx at h; rw [ho] at h
  simp only at h
  have hx := eval_sound s.fr x
  generalize hv : a.eval x = xv at hx
  split at h
  · rename_i i id off hi he
    rw [he] at hx
    obtain ⟨inf, z, d, h1, h2, h3, h4, h5, h6, h7, h8, h9⟩ := ty_parts (hty _ _ hi)
    split at h
    · rename_i B hB
      cases hx with
      | ptr _ _ b hl =>
        obtain ⟨b', cs, e1, e2, e3, e4⟩ := s.inv.blk id B hB
        rw [hl] at e1; injection e1 with e1; subst e1
        have hag := agg_of d h9
        rw [← h7] at hag
        split at h
        · rename_i hg
          rw [seqA_eq] at h
          obtain ⟨hle, hk⟩ := h
          rw [hg] at hag
          refine done_val s (.agg ((List.range inf.size).map fun j => cs[off + j]!).toArray) _ ?_ (.agg _ _ (by simp [h5]; omega) fun j j1 j2 => ?_) hk
          · have := run_loadVar_agg (P := P) h1 h2 hag.symm w b off (fun j => cs[off + j]!) (fun j hj => by
              rw [cell_of_heap e2]
              have : off + j < cs.size := by rw [← e3]; omega
              simp [this])
            simp [execOp, ho, hv, Instr.loadAt, Instr.sureAddr, this]
          · simp at j1 j2
            have : off + j < cs.size := by rw [← e3]; omega
            simp [this]
            exact e4 (off + j) (by omega) this
        · rename_i hg
          rw [hg] at hag
          split at h
          · rename_i c hc
            obtain ⟨hlt, rfl⟩ := List.getElem?_eq_some_iff.1 hc
            have hlt' : off < cs.size := by rw [← e3]; exact hlt
            refine done_val s cs[off] _ ?_ (e4 off hlt hlt') h
            have := run_loadVar_one (P := P) h2 hag.symm w b off cs[off] (by rw [cell_of_heap e2]; simp [hlt'])
            simp [execOp, ho, hv, Instr.loadAt, Instr.sureAddr, this]
          · exact h.elim
    · exact h.elim
  · rename_i i cs hi he
    rw [he] at hx
    obtain ⟨inf, z, d, h1, h2, h3, h4, h5, h6, h7, h8, h9⟩ := ty_parts (hty _ _ hi)
    have hag := agg_of d h9
    rw [← h7] at hag
    cases hx with
    | rp _ b off f hone hcell hrd =>
      split at h
      · rename_i hg
        rw [seqD_eq] at h
        obtain ⟨hle, hk⟩ := h
        rw [hg] at hag
        refine done_val s (.agg ((List.range inf.size).map f).toArray) _ ?_ (.d _ _ (.agg _ _ (by simp [h5]; omega) fun j j1 j2 => ?_)) hk
        · have := run_loadVar_agg (P := P) h1 h2 hag.symm w b off f (fun j hj => (hcell j (by omega)).2)
          simp [execOp, ho, hv, Instr.loadAt, Instr.sureAddr, this]
        · simp at j1 j2
          simp
          exact hrd j (by omega)
      · rename_i hg
        rw [hg] at hag
        split at h
        · rename_i c cs'
          refine done_val s (f 0) _ ?_ (.d _ _ (hrd 0 (by simp))) h
          have := run_loadVar_one (P := P) h2 hag.symm w b off (f 0) (by simpa using (hcell 0 (by simp)).2)
          simp [execOp, ho, hv, Instr.loadAt, Instr.sureAddr, this]
        · exact h.elim
  · exact h.elim
end
end Go.Ab
