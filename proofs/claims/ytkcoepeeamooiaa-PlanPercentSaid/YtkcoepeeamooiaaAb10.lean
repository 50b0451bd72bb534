/- The run over abstract states is sound: literals, append: the operations. -/
import Derived.Test.YtkcoepeeamooiaaAb9
set_option linter.unusedVariables false
set_option linter.unusedSimpArgs false
namespace Go.Ab
open Go

theorem rep_len (z : List AV) : ∀ n, (rep z n).length = n * z.length
  | 0 => by simp [rep]
  | n + 1 => by simp [rep, rep_len z n, Nat.add_mul]; omega
theorem rep_at (z : List AV) : ∀ (n i : Nat) (h : i < (rep z n).length) (h' : i % z.length < z.length), (rep z n)[i] = z[i % z.length]
  | 0, i, h, _ => by simp [rep] at h
  | n + 1, i, h, h' => by
    simp only [rep]
    rw [List.getElem_append]
    split
    · rename_i hi
      simp only [Nat.mod_eq_of_lt hi]
    · rename_i hi
      have e : i % z.length = (i - z.length) % z.length := by rw [Nat.mod_eq_sub_mod (by omega)]
      rw [rep_at z n (i - z.length) _ (by rw [← e]; exact h')]
      simp only [e]
theorem rep_sound {γ : Gh} {w : World} {z : List AV} {vz : Array Value} (h : RAs γ w z vz) (n : Nat) (hz : 0 < vz.size) : RAs γ w (rep z n) ((Array.range (n * vz.size)).map (vz[· % vz.size]!)) := by
  refine ⟨by rw [rep_len, h.1]; simp, fun i h1 h2 => ?_⟩
  have hz' : i % z.length < z.length := Nat.mod_lt _ (by rw [h.1]; exact hz)
  have hz'' : i % vz.size < vz.size := Nat.mod_lt _ hz
  rw [rep_at z n i h1 hz']
  simp [hz'']
  have := h.2 (i % z.length) hz' (by rw [h.1]; exact hz'')
  simpa [h.1] using this
theorem parts_sound {γ : Gh} {w : World} {fr : Fr} {a : Act} (h : RAs γ w fr a.tmps) (parts : Array (Nat × Operand)) :
    (parts.toList.map fun x => (x.1, aeval fr x.2)).length = (parts.map fun x => (x.1, a.eval x.2)).toList.length ∧ ∀ i (h1 : i < (parts.toList.map fun x => (x.1, aeval fr x.2)).length) (h2 : i < (parts.map fun x => (x.1, a.eval x.2)).toList.length), (parts.toList.map fun x => (x.1, aeval fr x.2))[i].1 = (parts.map fun x => (x.1, a.eval x.2)).toList[i].1 ∧ RA γ w (parts.toList.map fun x => (x.1, aeval fr x.2))[i].2 (parts.map fun x => (x.1, a.eval x.2)).toList[i].2 := by
  refine ⟨by simp, fun i h1 h2 => ?_⟩
  simp only [List.getElem_map, Array.getElem_toList, Array.getElem_map, true_and]
  exact eval_sound h _
theorem step_lit {γ : Gh} {w : World} (cs : Array Value) (e : TypeId) {H : Hp} (h : Inv γ H w) (j : Nat) (hj : j < cs.size) : γ.ok w.heap.size (0 + j) ∧ (w.alloc (.cells cs e)).cell? ⟨w.heap.size, 0 + j, none⟩ = some cs[j] := by
  refine ⟨⟨fun i hi => by have := h.lt hi; omega, fun t l ho => by have := (h.own _ _ ho).1; omega⟩, ?_⟩
  rw [cell_of_heap (Go.heap_alloc_new w _)]
  simp [hj]

section
variable {P : Program} {ty : TypeId → Option TI} (hty : ∀ t i, ty t = some i → tyOf P t = some i) {tb n0 : Nat} {γ0 γ : Gh} {w0 w : World} {o : Oper} {fr : Fr} {H : Hp} {a : Act} {K : AV → Fr → Hp → Prop}

include hty in
theorem op_build (s : St γ0 w0 n0 γ fr H a w) (t : TypeId) (parts : Array (Nat × Operand)) (ho : o.op = .build t parts) (h : opx P ty tb n0 o fr H K) : Done P γ0 w0 a w o K := by
  unfold opx at h; rw [ho] at h
  simp only at h
  have hp := parts_sound s.fr parts
  split at h
  · rename_i fs z sz by' hti
    obtain ⟨inf, z0, d, h1, h2, h3, h4, h5, h6, h7, h8, h9⟩ := ty_parts (hty _ _ hti)
    simp only at h7 h8
    obtain ⟨gs, rfl, hall, rfl⟩ := of_struct h7.symm
    split at h
    · rename_i cs hf
      rw [seqA_eq] at h
      have hpl : ∀ i, placeS (gs.toList.map fun f => (f.offset, f.type, P.cellsOf f.type)) i = (gs.map fun f => (f.offset, P.cellsOf f.type))[i]? := fun i => by
        simp only [placeS, List.getElem?_map, Option.map_map]
        simp
        rfl
      have hfun : placeS (gs.toList.map fun f => (f.offset, f.type, P.cellsOf f.type)) = fun i => (gs.map fun f => (f.offset, P.cellsOf f.type))[i]? := funext hpl
      rw [hfun] at hf
      subst h8
      obtain ⟨vc, k1, k2⟩ := fill_sound _ _ _ _ _ hf (zero_sound γ w z0) hp
      refine done_val s (.agg vc) _ ?_ (.agg _ _ k2.1 k2.2) h
      have hmap : (gs.mapM (m := Sem) fun f => Prod.mk f.offset <$> Go.sizeOf f.type).run P w = .ok (gs.map fun f => (f.offset, P.cellsOf f.type)) w := by
        rw [Array.mapM_eq_mapM_toList]
        have : ∀ (l : List Field), (∀ f ∈ l, (P.info? f.type).isSome) → (l.mapM (m := Sem) fun f => Prod.mk f.offset <$> Go.sizeOf f.type).run P w = .ok (l.map fun f => (f.offset, P.cellsOf f.type)) w := by
          intro l
          induction l with
          | nil => intro _; simp
          | cons f l ih =>
            intro hl
            obtain ⟨inf', hinf'⟩ := Option.isSome_iff_exists.1 (hl f (by simp))
            have ih' := ih (fun g hg => hl g (by simp [hg]))
            simp [List.mapM_cons, Go.sizeOf, typeInfo, hinf', Program.cellsOf] at ih' ⊢
            simp [ih']
        have h' := this gs.toList (fun f hf => by
          obtain ⟨i, hi, rfl⟩ := List.getElem_of_mem hf
          have := Array.all_eq_true.1 hall i (by simpa using hi)
          simp only [Bool.and_eq_true] at this
          simpa using this.1)
        rw [Sem.run_map, h']
        simp only [Result.andThen_ok]
        congr 1
        apply Array.ext'; simp
      simp only [Array.toList_map, Array.getElem?_map] at k1
      simp only [execOp, ho, Instr.build, Sem.run_bind]
      simp [zeroValue, typeInfo, h1, h3, run_underlying h2, hmap, k1]
    · exact h.elim
  · rename_i n e z sz by' hti
    obtain ⟨inf, z0, d, h1, h2, h3, h4, h5, h6, h7, h8, h9⟩ := ty_parts (hty _ _ hti)
    simp only at h7 h8
    obtain rfl := of_array h7.symm
    split at h
    · rename_i ie hei
      obtain ⟨inf', z', d', g1, g2, g3, g4, g5, g6, g7, g8, g9⟩ := ty_parts (hty _ _ hei)
      split at h
      · rename_i cs hf
        rw [seqA_eq] at h
        subst h8
        obtain ⟨vc, k1, k2⟩ := fill_sound _ _ _ _ _ hf (zero_sound γ w z0) hp
        refine done_val s (.agg vc) _ ?_ (.agg _ _ k2.1 k2.2) h
        simp only [Array.toList_map] at k1
        simp only [execOp, ho, Instr.build, Sem.run_bind]
        simp [zeroValue, typeInfo, h1, h3, run_underlying h2, Go.sizeOf, g1, g5, k1]
      · exact h.elim
    · exact h.elim
  · exact h.elim

include hty in
theorem op_buildSlice (s : St γ0 w0 n0 γ fr H a w) (t : TypeId) (n : Nat) (parts : Array (Nat × Operand)) (ho : o.op = .buildSlice t n parts) (h : opx P ty tb n0 o fr H K) : Done P γ0 w0 a w o K := by
  unfold opx at h; rw [ho] at h
  simp only at h
  have hp := parts_sound s.fr parts
  split at h
  · rename_i e sz by' ze hti
    obtain ⟨inf, z0, d, h1, h2, h3, h4, h5, h6, h7, h8, h9⟩ := ty_parts (hty _ _ hti)
    simp only at h7
    obtain rfl := of_slice h7.symm
    split at h
    · rename_i ie hei
      obtain ⟨inf', z', d', g1, g2, g3, g4, g5, g6, g7, g8, g9⟩ := ty_parts (hty _ _ hei)
      split at h
      · rename_i cs hf
        split at h
        · rename_i l hl
          obtain ⟨⟨l1, l2⟩, hk⟩ := h
          have hz := zero_sound γ w z'
          rw [← g8] at hz
          have hrep := rep_sound hz n (by rw [g4]; exact l2)
          obtain ⟨vc, k1, k2⟩ := fill_sound _ _ _ _ _ hf hrep hp
          have hcl : cs.length = n * ie.size := by
            have : ∀ (place : Nat → Option (Nat × Nat)) (parts : List (Nat × AV)) (cells cells' : List AV), fillx place cells parts = some cells' → cells'.length = cells.length := by
              intro place parts
              induction parts with
              | nil => intro cells cells' hh; simp [fillx] at hh; subst hh; rfl
              | cons p parts ih =>
                intro cells cells' hh
                obtain ⟨i, v⟩ := p
                unfold fillx at hh
                split at hh
                · split at hh
                  · rw [ih _ _ hh, setAll_len []]
                  · cases hh
                · cases hh
            rw [this _ _ _ _ hf, rep_len, hz.1, g4]
          obtain ⟨p1, p2, p3⟩ := step_push s.inv (.cells vc e)
          have hvs : vc.size = n * ie.size := by rw [← k2.1]; exact hcl
          obtain ⟨q1, q2, q3⟩ := mkL_RD hl hcl k2 (ok' := γ.ok) (w' := w.alloc (.cells vc e)) (b := w.heap.size) (o := 0) (fun j hj => step_lit vc e s.inv j hj) (fun x v hx => hx.mono p2.ok) (by
            have : n * 1 ≤ n * ie.size := Nat.mul_le_mul_left n l2
            simp only [maxLen]; omega)
          rw [← q1] at q3
          refine done_step s (.slice (some ⟨w.heap.size, 0, none⟩) l.len l.len) _ ?_ p1 p2 p3 (.full _ _ q3) hk
          simp only [Array.toList_map] at k1
          have hne : n * ie.size ≠ 0 ∨ n * ie.size = 0 := by omega
          have hsz : ¬ (n * ie.size > 16777216) := by omega
          simp only [execOp, ho, Instr.buildSlice, Sem.run_bind, run_underlying h2, Result.andThen_ok]
          by_cases h0 : n * ie.size = 0
          · have hn0 : n = 0 := by rcases Nat.mul_eq_zero.1 h0 with h | h <;> omega
            subst hn0
            have e0 : Array.range 0 = #[] := rfl
            have k1' : Instr.fill (fun i => some (i * ie.size, ie.size)) #[] (parts.toList.map fun x => (x.1, a.eval x.2)) = some vc := by simpa [e0] using k1
            simp [Go.sizeOf, typeInfo, g1, g5, e0, k1', newRow, q1]
          · have hsz' : ¬ (16777216 < n * ie.size) := by omega
            rw [g4] at k1
            have hzs : z'.cells.size = ie.size := g4
            simp [Go.sizeOf, typeInfo, g1, g5, h0, hsz', zeroValue, g3, hzs, k1, newRow, q1]
        · exact h.elim
      · exact h.elim
    · exact h.elim
  · exact h.elim
end
end Go.Ab
