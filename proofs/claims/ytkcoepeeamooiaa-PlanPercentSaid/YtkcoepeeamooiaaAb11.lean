/- The run over abstract states is sound: an array that is sliced; append. -/
import Derived.Test.YtkcoepeeamooiaaAb10
set_option linter.unusedVariables false
set_option linter.unusedSimpArgs false
namespace Go.Ab
open Go

theorem Evo.drop {γ0 γ : Gh} {w0 w : World} (h : Evo γ0 w0 γ w) (id : Nat) (hid : ∀ b, γ0.live id ≠ some b) : Evo γ0 w0 (γ.drop id) w := by
  refine ⟨h.os, h.tape, h.output, h.size, h.same, h.tip, fun i b hi => ?_, fun i b hi => ?_, h.nown⟩
  · simp only [Gh.drop]; rw [if_neg (fun e => by subst e; exact hid b hi)]; exact h.live i b hi
  · simp only [Gh.drop] at hi; split at hi
    · cases hi
    · exact h.new i b hi

/-! ### append -/
theorem L.app_spec {s : Nat} {l m r : L} (h : L.app s l m = some r) : r.len = l.len + m.len ∧ r.size = s ∧ (0 < l.len → l.size = s) ∧ (0 < m.len → m.size = s) ∧ (∀ i, i < l.len → r.row i = l.row i) ∧ ∀ i, i < m.len → r.row (l.len + i) = m.row i := by
  unfold L.app at h
  split at h
  · split at h
    · rename_i hk; obtain ⟨rfl, rfl⟩ := hk; injection h with h; subst h
      refine ⟨by simp [L.len], rfl, fun _ => rfl, fun _ => rfl, fun i hi => ?_, fun i hi => ?_⟩
      · simp only [L.row, L.len] at *; simp [List.getElem?_append_left hi]
      · simp only [L.row, L.len] at *; simp [List.getElem?_append_right]
    · cases h
  · split at h
    · rename_i hs; subst hs; injection h with h; subst h
      exact ⟨by simp [L.len], rfl, fun _ => rfl, fun hm => by simp [L.len] at hm, fun i hi => rfl, fun i hi => by simp [L.len] at hi⟩
    · cases h
  · split at h
    · rename_i hs; subst hs; injection h with h; subst h
      exact ⟨by simp [L.len], rfl, fun hm => by simp [L.len] at hm, fun _ => rfl, fun i hi => by simp [L.len] at hi, fun i hi => by simp [L.len]⟩
    · cases h
  · split at h
    · rename_i hs; injection h with h; subst h
      refine ⟨by simp [L.len], rfl, fun hm => by simp [L.len] at hm, fun hm => ?_, fun i hi => by simp [L.len] at hi, fun i hi => by simp [L.len, L.row]⟩
      rcases hs with hs | hs
      · exact hs.symm
      · simp [L.len, hs] at hm
    · cases h
  · split at h
    · rename_i hs; injection h with h; subst h
      refine ⟨by simp [L.len], rfl, fun hm => hs.1.symm, fun hm => ?_, fun i hi => ?_, fun i hi => ?_⟩
      · rcases hs.2 with hs | hs
        · exact hs.symm
        · simp [L.len, hs] at hm
      · simp only [L.row, L.len] at *; simp [List.getElem?_append_left hi]
      · simp only [L.row, L.len] at *; simp [List.getElem?_append_right]
    · cases h
  · cases h
/-- The cells of a slice, as a list. -/
theorem RD.cells {ok : Nat → Nat → Prop} {w : World} {l : L} {v : Value} (h : RD ok w (.sl l) v) (s : Nat) (hs : 0 < l.len → l.size = s) : ∃ (A : Option Addr) (cap : Nat) (news : List Value), v = .slice A l.len cap ∧ l.len ≤ cap ∧ news.length = l.len * s ∧
    (l.len = 0 ∨ ∃ b o, A = some ⟨b, o, none⟩ ∧ ∀ j (hj : j < news.length), ok b (o + j) ∧ w.cell? ⟨b, o + j, none⟩ = some news[j]) ∧ (∀ i, i < l.len → (l.row i).length = s) ∧
    ∀ i j (hi : i < l.len) (hj : j < (l.row i).length) (hc : i * s + j < news.length), RD ok w (l.row i)[j] news[i * s + j] ∧ (l.row i)[j].one = true := by
  cases h with
  | emp _ A cap hl => exact ⟨A, cap, [], by rw [hl], by omega, by simp [hl], .inl hl, fun i hi => by omega, fun i j hi => by omega⟩
  | row _ b o cap f hc hm hz hone hcell hrd =>
    rcases Nat.eq_zero_or_pos l.len with h0 | h0
    · exact ⟨_, cap, [], rfl, hc, by simp [h0], .inl h0, fun i hi => by omega, fun i j hi => by omega⟩
    · have hs' := hs h0
      subst hs'
      rcases Nat.eq_zero_or_pos l.size with hz0 | hz0
      · refine ⟨_, cap, [], rfl, hc, by simp [hz0], .inr ⟨b, o, rfl, fun j hj => by simp at hj⟩, hz, fun i j hi hj => by rw [hz i hi] at hj; omega⟩
      · refine ⟨_, cap, (List.range (l.len * l.size)).map fun q => f (q / l.size) (q % l.size), rfl, hc, by simp, .inr ⟨b, o, rfl, fun j hj => ?_⟩, hz, fun i j hi hj hc => ?_⟩
        · simp at hj
          have h1 : j / l.size < l.len := Nat.div_lt_of_lt_mul (by rw [Nat.mul_comm]; exact hj)
          have h2 : j % l.size < l.size := Nat.mod_lt _ hz0
          have := hcell _ _ h1 h2
          have e : j / l.size * l.size + j % l.size = j := by rw [Nat.mul_comm]; exact Nat.div_add_mod j l.size
          rw [e] at this
          simpa using this
        · have hj' : j < l.size := by rw [hz i hi] at hj; exact hj
          have e1 : (i * l.size + j) / l.size = i := by rw [Nat.mul_comm, Nat.mul_add_div hz0, Nat.div_eq_of_lt hj']; omega
          have e2 : (i * l.size + j) % l.size = j := by rw [Nat.mul_comm, Nat.mul_add_mod, Nat.mod_eq_of_lt hj']
          simp only [List.getElem_map, List.getElem_range, e1, e2]
          exact ⟨hrd i j hi hj, hone i j hi hj⟩
/-- The same rows, told otherwise. -/
theorem RD.congr {ok : Nat → Nat → Prop} {w : World} {l r : L} {v : Value} (h : RD ok w (.sl l) v) (hl : r.len = l.len) (hs : 0 < l.len → r.size = l.size) (hr : ∀ i, i < l.len → r.row i = l.row i) : RD ok w (.sl r) v := by
  cases h with
  | emp _ A cap h0 => exact .emp r A cap (by omega)
  | row _ b o cap f hc hm hz hone hcell hrd =>
    rcases Nat.eq_zero_or_pos l.len with h0 | h0
    · rw [h0]; exact .emp r _ cap (by omega)
    · have hs' := hs h0
      have := RD.row (ok := ok) (w := w) r b o cap f (by omega) hm (fun i hi => by rw [hr i (by omega), hs']; exact hz i (by omega))
        (fun i j hi hj => by
          have e := hr i (by omega)
          have hj' : j < (l.row i).length := by rw [← e]; exact hj
          have := hone i j (by omega) hj'
          simpa [e] using this)
        (fun i j hi hj => by rw [hs'] at hj ⊢; exact hcell i j (by omega) hj)
        (fun i j hi hj => by
          have e := hr i (by omega)
          have hj' : j < (l.row i).length := by rw [← e]; exact hj
          have := hrd i j (by omega) hj'
          simpa [e] using this)
      rw [hl] at this; exact this
/-- A row of cells that two lists fill. -/
theorem RD.join {ok ok' : Nat → Nat → Prop} {w w' : World} {s : Nat} {l m r : L} (h : L.app s l m = some r) {olds news : List Value} (ho : olds.length = l.len * s) (hn : news.length = m.len * s)
    (hlr : ∀ i, i < l.len → (l.row i).length = s) (hmr : ∀ i, i < m.len → (m.row i).length = s)
    (hol : ∀ i j (hi : i < l.len) (hj : j < (l.row i).length) (hc : i * s + j < olds.length), RD ok w (l.row i)[j] olds[i * s + j] ∧ (l.row i)[j].one = true)
    (hne : ∀ i j (hi : i < m.len) (hj : j < (m.row i).length) (hc : i * s + j < news.length), RD ok w (m.row i)[j] news[i * s + j] ∧ (m.row i)[j].one = true)
    (hmono : ∀ x v, RD ok w x v → RD ok' w' x v) {b o cap : Nat} (hcap : r.len ≤ cap) (hmx : cap ≤ maxLen)
    (hcell : ∀ j (hj : j < (olds ++ news).length), ok' b (o + j) ∧ w'.cell? ⟨b, o + j, none⟩ = some (olds ++ news)[j]) : RD ok' w' (.sl r) (.slice (some ⟨b, o, none⟩) r.len cap) := by
  obtain ⟨a1, a2, a3, a4, a5, a6⟩ := L.app_spec h
  have hlen : (olds ++ news).length = r.len * s := by rw [List.length_append, ho, hn, a1, Nat.add_mul]
  have hrow : ∀ i, i < r.len → (r.row i).length = s := fun i hi => by
    rcases Nat.lt_or_ge i l.len with h1 | h1
    · rw [a5 i h1]; exact hlr i h1
    · have e : i = l.len + (i - l.len) := by omega
      rw [e, a6 _ (by omega)]; exact hmr _ (by omega)
  have hval : ∀ i j (hi : i < r.len) (hj : j < (r.row i).length) (hc : i * s + j < (olds ++ news).length), RD ok w (r.row i)[j] (olds ++ news)[i * s + j] ∧ (r.row i)[j].one = true := fun i j hi hj hc => by
    have hjs : j < s := by rw [hrow i hi] at hj; exact hj
    rcases Nat.lt_or_ge i l.len with h1 | h1
    · have hlt : i * s + j < olds.length := by rw [ho]; exact idx_lt h1 hjs
      have e := a5 i h1
      have hj' : j < (l.row i).length := by rw [← e]; exact hj
      have := hol i j h1 hj' hlt
      rw [List.getElem_append_left hlt]
      simpa [e] using this
    · have ei : i = l.len + (i - l.len) := by omega
      have e : r.row i = m.row (i - l.len) := by rw [ei, a6 _ (by omega)]; congr 1; omega
      have hj' : j < (m.row (i - l.len)).length := by rw [← e]; exact hj
      have hge : olds.length ≤ i * s + j := by
        have : l.len * s ≤ i * s := Nat.mul_le_mul_right s h1
        omega
      have e2 : i * s + j - olds.length = (i - l.len) * s + j := by
        rw [ho, Nat.sub_mul]
        have : l.len * s ≤ i * s := Nat.mul_le_mul_right s h1
        omega
      have hlt : (i - l.len) * s + j < news.length := by rw [hn]; exact idx_lt (by omega) hjs
      have := hne (i - l.len) j (by omega) hj' hlt
      rw [List.getElem_append_right hge]
      simp only [e2]
      simpa [e] using this
  refine RD.row r b o cap (fun i j => (olds ++ news)[i * s + j]!) hcap hmx (fun i hi => by rw [a2]; exact hrow i hi) (fun i j hi hj => ?_) (fun i j hi hj => ?_) (fun i j hi hj => ?_)
  · have hjs : j < s := by rw [hrow i hi] at hj; exact hj
    exact (hval i j hi hj (by rw [hlen]; exact idx_lt hi hjs)).2
  · rw [a2] at hj ⊢
    have hlt : i * s + j < (olds ++ news).length := by rw [hlen]; exact idx_lt hi hj
    obtain ⟨k1, k2⟩ := hcell _ hlt
    exact ⟨k1, by simp only [hlt, getElem!_pos]; exact k2⟩
  · have hjs : j < s := by rw [hrow i hi] at hj; exact hj
    have hlt : i * s + j < (olds ++ news).length := by rw [hlen]; exact idx_lt hi hjs
    simp only [hlt, getElem!_pos]
    exact hmono _ _ (hval i j hi hj hlt).1

theorem setCells_heap (b : Nat) {e : TypeId} : ∀ (vs : List Value) (o : Nat) (w : World) (cs : Array Value), w.heap[b]? = some (.cells cs e (0, 0)) → o + vs.length ≤ cs.size →
    ∃ cs', (w.setCells b o vs).heap[b]? = some (.cells cs' e (0, 0)) ∧ cs'.size = cs.size ∧ (∀ j, j < o → cs'[j]? = cs[j]?) ∧ (∀ j (hj : j < vs.length), cs'[o + j]? = some vs[j]) ∧ (∀ c, c ≠ b → (w.setCells b o vs).heap[c]? = w.heap[c]?) ∧
      (w.setCells b o vs).os = w.os ∧ (w.setCells b o vs).tape = w.tape ∧ (w.setCells b o vs).output = w.output ∧ (w.setCells b o vs).heap.size = w.heap.size
  | [], o, w, cs, h, _ => ⟨cs, h, rfl, fun _ _ => rfl, fun j hj => by simp at hj, fun _ _ => rfl, rfl, rfl, rfl, rfl⟩
  | v :: vs, o, w, cs, h, hl => by
    obtain ⟨cs', h1, h2, h3, h4, h5, h6, h7, h8, h9⟩ := setCells_heap b vs (o + 1) (w.setCell ⟨b, o, none⟩ v) _ (heap_setCell_at w b o v cs e h) (by simp at hl ⊢; omega)
    refine ⟨cs', h1, by simpa using h2, fun j hj => ?_, fun j hj => ?_, fun c hc => (h5 c hc).trans (heap_setCell_ne w ⟨b, o, none⟩ v hc), h6, h7, h8, by simpa [World.setCells, World.setCell] using h9⟩
    · rw [h3 j (by omega), Array.getElem?_setIfInBounds_ne (by omega)]
    · cases j with
      | zero => 
        rw [Nat.add_zero, h3 o (by omega), Array.getElem?_setIfInBounds_self_of_lt (by simp at hl; omega)]; rfl
      | succ j => 
        have := h4 j (by simpa using hj)
        rw [show o + (j + 1) = o + 1 + j by omega]; simpa using this

section
variable {P : Program} {ty : TypeId → Option TI} (hty : ∀ t i, ty t = some i → tyOf P t = some i) {tb n0 : Nat} {γ0 γ : Gh} {w0 w : World} {o : Oper} {fr : Fr} {H : Hp} {a : Act} {K : AV → Fr → Hp → Prop}

include hty in
theorem op_slice_arr (s : St γ0 w0 n0 γ fr H a w) (t : TypeId) (x : Operand) (lo hi mx : Option Operand) (ho : o.op = .slice t x lo hi mx) (i : TI) (n : Nat) (e : TypeId) (hti : ty t = some i) (hik : i.k = .array n e) (h : opx P ty tb n0 o fr H K) : Done P γ0 w0 a w o K := by
  unfold opx at h; rw [ho] at h
  simp only [hti] at h
  unfold slicex at h
  simp only [lenL_eq] at h
  rw [hik] at h
  simp only at h
  have hx := eval_sound s.fr x
  generalize hxv : a.eval x = xv at hx
  obtain ⟨inf, z, d, h1, h2, h3, h4, h5, h6, h7, h8, h9⟩ := ty_parts (hty _ _ hti)
  rw [hik] at h7
  obtain rfl := of_array h7.symm
  split at h
  · rename_i ie id off hei he hlo hhi hmx
    rw [he] at hx
    have elo : lo = none := by cases lo <;> simp at hlo; rfl
    have ehi : hi = none := by cases hi <;> simp at hhi; rfl
    have emx : mx = none := by cases mx <;> simp at hmx; rfl
    subst elo; subst ehi; subst emx
    obtain ⟨inf', z', d', g1, g2, g3, g4, g5, g6, g7, g8, g9⟩ := ty_parts (hty _ _ hei)
    split at h
    · rename_i B hB
      split at h
      · rename_i l hl
        obtain ⟨⟨l1, l2, l3, l4⟩, hk⟩ := h
        rw [seqA_eq, seqH_eq] at hk
        cases hx with
        | ptr _ _ b hlv =>
          obtain ⟨b', cs, e1, e2, e3, e4⟩ := s.inv.blk id B hB
          rw [hlv] at e1; injection e1 with e1; subst e1
          have hvs : RAs γ w ((B.cells.drop off).take (n * ie.size)) (((cs.toList.drop off).take (n * ie.size)).toArray) := by
            refine ⟨by simp; omega, fun j j1 j2 => ?_⟩
            simp only [List.getElem_take, List.getElem_drop, List.getElem_toArray, Array.getElem_toList]
            exact e4 _ _ _
          have hlen : ((B.cells.drop off).take (n * ie.size)).length = n * ie.size := by simp; omega
          have hnl : ∀ k, (γ.drop id).live k ≠ some b := fun k hk => by
            simp only [Gh.drop] at hk; split at hk
            · cases hk
            · rename_i hne; exact hne (s.inv.inj k id b hk hlv)
          have hno : ∀ x, γ.own b ≠ some x := fun x hx => (s.inv.own b x hx).2 id hlv
          obtain ⟨q1, q2, q3⟩ := mkL_RD hl hlen hvs (ok' := (γ.drop id).ok) (w' := w) (b := b) (o := off) (fun j hj => by
              refine ⟨⟨hnl, fun t l ht => absurd ht (hno _)⟩, ?_⟩
              simp at hj
              rw [cell_of_heap e2]
              simp [show off + j < cs.size by omega]) (fun x v hx => hx.mono (Ext.drop γ w id).ok) (by simp only [maxLen]; omega)
          rw [← q1] at q3
          have hid : ∀ b, γ0.live id ≠ some b := fun b hb => by have := s.n0 id b hb; omega
          refine ⟨_, .slice (some ⟨b, off, none⟩) l.len l.len, w, γ.drop id, .full l, _, _, ?_, .inl rfl, step_drop (s.inv.weak no (one id)) id (fun k C hC _ => cleanH_weak _ _ _ k C hC), (s.fr.weak no (one id)).mono (Ext.drop γ w id) (weaks_clean _ _ _), .full _ _ q3, s.evo.drop id hid, hk⟩
          have ha : (⟨b, off, none⟩ : Addr).add 0 = ⟨b, off, none⟩ := by rw [addr_add]; rfl
          simp [execOp, ho, hxv, Instr.sliceAt, run_underlying h2, Instr.sureAddr, Instr.sliceBounds, Go.sizeOf, typeInfo, g1, ha, q1]
      · exact h.elim
    · exact h.elim
  · rename_i ie cs hei he hlo hhi hmx
    rw [he] at hx
    have elo : lo = none := by cases lo <;> simp at hlo; rfl
    have ehi : hi = none := by cases hi <;> simp at hhi; rfl
    have emx : mx = none := by cases mx <;> simp at hmx; rfl
    subst elo; subst ehi; subst emx
    obtain ⟨inf', z', d', g1, g2, g3, g4, g5, g6, g7, g8, g9⟩ := ty_parts (hty _ _ hei)
    split at h
    · rename_i l hl
      obtain ⟨⟨l2, l3, l4⟩, hk⟩ := h
      cases hx with
      | rp _ b off f ho1 hcell hdat =>
        have hvs : RAs γ w ((cs.take (n * ie.size)).map .d) (((List.range (n * ie.size)).map f).toArray) := by
          refine ⟨by simp; omega, fun j j1 j2 => ?_⟩
          simp at j1
          simp only [List.getElem_map, List.getElem_take, List.getElem_toArray, List.getElem_range]
          exact .d _ _ (hdat j (by omega))
        have hlen : ((cs.take (n * ie.size)).map AV.d).length = n * ie.size := by simp; omega
        obtain ⟨q1, q2, q3⟩ := mkL_RD hl hlen hvs (ok' := γ.ok) (w' := w) (b := b) (o := off) (fun j hj => by
            simp at hj
            obtain ⟨k1, k2⟩ := hcell j (by omega)
            refine ⟨k1, ?_⟩
            rw [k2]; simp) (fun x v hx => hx) (by simp only [maxLen]; omega)
        rw [← q1] at q3
        have ha : (⟨b, off, none⟩ : Addr).add 0 = ⟨b, off, none⟩ := by rw [addr_add]; rfl
        refine done_val s (.slice (some ⟨b, off, none⟩) l.len l.len) (.full l) ?_ (.full _ _ q3) hk
        simp [execOp, ho, hxv, Instr.sliceAt, run_underlying h2, Instr.sureAddr, Instr.sliceBounds, Go.sizeOf, typeInfo, g1, ha, q1]
    · exact h.elim
  · exact h.elim
end
end Go.Ab
