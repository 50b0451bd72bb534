/- The run over abstract states is sound: append, the operation. -/
import Derived.Test.YtkcoepeeamooiaaAb11
set_option linter.unusedVariables false
set_option linter.unusedSimpArgs false
namespace Go.Ab
open Go

theorem withOwn_same (γ : Gh) (b : Nat) (x : Option Nat × Nat) : (γ.withOwn b x).own b = some x := by simp [Gh.withOwn]
section
variable {P : Program}
/-- A slice is a source that append reads. -/
theorem src_of {ok : Nat → Nat → Prop} {w : World} {t' e' : TypeId} (hk : P.underlying t' = some (.slice e')) {s n c : Nat} {A : Option Addr} {news : List Value} (hn : news.length = n * s)
    (hc : n = 0 ∨ ∃ b o, A = some ⟨b, o, none⟩ ∧ ∀ j (hj : j < news.length), ok b (o + j) ∧ w.cell? ⟨b, o + j, none⟩ = some news[j]) (h1 : ∀ u ∈ news, u.oneCell' = true) : Src P s t' (.slice A n c) n news w := by
  have cells : ∀ W : World, (∀ a, W.cell? a = w.cell? a) → (Builtin.firstCells s n (.slice A n c)).run P W = .ok news.toArray W := fun W hW => by
    rcases hc with h0 | ⟨b, o, rfl, hcell⟩
    · subst h0
      have : news = [] := List.eq_nil_of_length_eq_zero (by simpa using hn)
      subst this
      cases A <;> simp [Builtin.firstCells, loadCells, loadCellsFrom]
    · exact run_firstCells_some (P := P) W s n ⟨b, o, none⟩ n c news hn (fun j v hv => by
        obtain ⟨hlt, rfl⟩ := List.getElem?_eq_some_iff.1 hv
        rw [addr_add, hW]; exact (hcell j hlt).2)
  exact ⟨.inl ⟨e', hk⟩, fun w' => by simp [Builtin.lenOf], cells w (fun _ => rfl), cells w.drew (fun a => rfl), hn, h1⟩
theorem news_one {ok : Nat → Nat → Prop} {w : World} {m : L} {s : Nat} {news : List Value} (hn : news.length = m.len * s) (hr : ∀ i, i < m.len → (m.row i).length = s)
    (h : ∀ i j (hi : i < m.len) (hj : j < (m.row i).length) (hc : i * s + j < news.length), RD ok w (m.row i)[j] news[i * s + j] ∧ (m.row i)[j].one = true) : ∀ u ∈ news, u.oneCell' = true := by
  intro u hu
  obtain ⟨q, hq, rfl⟩ := List.getElem_of_mem hu
  have hs : 0 < s := by rcases Nat.eq_zero_or_pos s with h0 | h0; · rw [hn, h0] at hq; simp at hq
                        · exact h0
  have h1 : q / s < m.len := Nat.div_lt_of_lt_mul (by rw [Nat.mul_comm, ← hn]; exact hq)
  have h2 : q % s < s := Nat.mod_lt _ hs
  have e : q / s * s + q % s = q := by rw [Nat.mul_comm]; exact Nat.div_add_mod q s
  have hj : q % s < (m.row (q / s)).length := by rw [hr _ h1]; exact h2
  have := h (q / s) (q % s) h1 hj (by rw [e]; exact hq)
  simp only [e] at this
  exact this.1.one this.2

theorem append_grow {γ : Gh} {H : Hp} {w : World} (hI : Inv γ H w) {t t' tr e e' : TypeId} {inf : TypeInfo} {z : Value} (ht : P.underlying t = some (.slice e)) (ht' : P.underlying t' = some (.slice e')) (hi : P.info? e = some inf) (hz : inf.zero = some z) (hzs : z.cells.size = inf.size)
    {l m r : L} {A : Option Addr} {cap : Nat} {xv : Value} (hl : RD γ.ok w (.sl l) (.slice A l.len cap)) (hm : RD γ.ok w (.sl m) xv) (happ : L.app inf.size l m = some r) (hg : cap < r.len) (hbytes : r.len * inf.bytes ≤ 140737488355328) (hb0 : 0 < inf.bytes) (T : Nat) :
    ∃ v' w' γ', (Builtin.append_ #[t, t'] tr #[.slice A l.len cap, xv]).run P w = .ok v' w' ∧ Inv γ' H w' ∧ Ext no no γ w γ' w' ∧ Evo γ w γ' w' ∧ RA γ' w' (.app T r) v' := by
  obtain ⟨a1, a2, a3, a4, a5, a6⟩ := L.app_spec happ
  obtain ⟨A1, cap1, olds, e1, _, b2, b3, b4, b5⟩ := hl.cells inf.size a3
  injection e1 with e1a _ e1c; subst e1a; subst e1c
  obtain ⟨A2, cap2, news, rfl, c1, c2, c3, c4, c5⟩ := hm.cells inf.size a4
  have hone := news_one c2 c4 c5
  have hrl : r.len ≤ 140737488355328 := Nat.le_trans (Nat.le_mul_of_pos_right _ hb0) hbytes
  have hS := src_of (P := P) (c := cap2) ht' c2 c3 hone
  have hold : (Builtin.firstCells inf.size l.len (.slice A l.len cap)).run P w.drew = .ok olds.toArray w.drew := (src_of (P := P) (c := cap) ht b2 b3 (news_one b2 b4 b5)).cellsD
  have hrun := run_append_grow_src (P := P) w t t' tr e inf z ht hi hz A l.len cap olds hold (.slice A2 m.len cap2) m.len news hS (by rw [← a1]; exact hg) (by rw [← a1]; omega) (by rw [← a1]; exact growslice_fits hg hbytes)
  rw [← a1] at hrun
  have hge := grownCap_ge w r.len cap e
  have hle := grownCap_le_maxLen w r.len cap e (by simp only [maxLen]; omega)
  generalize hC : grownCap w r.len cap e = C at hrun hge hle
  have hlen : (olds ++ news).length = r.len * inf.size := by rw [List.length_append, b2, c2, a1, Nat.add_mul]
  have hsz : ((olds ++ news).toArray ++ Builtin.zeroCells z.cells (C - r.len)).size = C * inf.size := by
    rw [Array.size_append, List.size_toArray, size_zeroCells, hlen, hzs, ← Nat.add_mul]; congr 1; omega
  obtain ⟨p1, p2, p3⟩ := step_drew hI
  obtain ⟨q1, q2, q3⟩ := step_own p1 ((olds ++ news).toArray ++ Builtin.zeroCells z.cells (C - r.len)) e T (r.len * inf.size) (by rw [hsz]; exact Nat.mul_le_mul_right _ hge)
  have hx := p2.trans q2
  refine ⟨_, _, _, hrun, q1, hx, p3.trans hI.own q3, ?_⟩
  have hb : (w.drew.alloc (.cells ((olds ++ news).toArray ++ Builtin.zeroCells z.cells (C - r.len)) e)).heap[w.heap.size]? = some (.cells ((olds ++ news).toArray ++ Builtin.zeroCells z.cells (C - r.len)) e) := Go.heap_alloc_new w.drew _
  refine .app T r w.heap.size C _ e ?_ ((withOwn_same γ w.drew.heap.size _).trans (by rw [a2])) hb (by rw [a2, hsz]; exact Nat.le_refl _) ⟨by omega, hge⟩ hle
  refine RD.join (ok := γ.ok) (w := w) happ b2 c2 b4 c4 b5 c5 (fun x v hx' => hx'.mono hx.ok) hge hle (fun j hj => ⟨⟨fun i hi' => ?_, fun t l' ho => ?_⟩, ?_⟩)
  · have := hI.lt hi'; omega
  · have ho := (withOwn_same γ w.drew.heap.size (some T, r.len * inf.size)).symm.trans ho
    injection ho with ho; injection ho with _ ho
    rw [← ho, ← hlen]; omega
  · rw [cell_of_heap hb, Nat.zero_add]
    rw [Array.getElem?_append_left (by simpa using hj)]
    simp only [List.getElem?_toArray]
    exact List.getElem?_eq_getElem hj

theorem append_none {γ : Gh} {H : Hp} {w : World} {t t' tr e e' : TypeId} {inf : TypeInfo} (ht : P.underlying t = some (.slice e)) (ht' : P.underlying t' = some (.slice e')) (hi : P.info? e = some inf)
    {l m : L} {A : Option Addr} {cap : Nat} {xv : Value} (hcap : l.len ≤ cap) (hm : RD γ.ok w (.sl m) xv) (h0 : m.len = 0) : (Builtin.append_ #[t, t'] tr #[.slice A l.len cap, xv]).run P w = .ok (.slice A l.len cap) w := by
  obtain ⟨A2, cap2, news, rfl, c1, c2, c3, c4, c5⟩ := hm.cells inf.size (fun h => by omega)
  have hn : news = [] := List.eq_nil_of_length_eq_zero (by rw [c2, h0]; simp)
  subst hn
  have hS := src_of (P := P) (s := inf.size) (c := cap2) ht' c2 c3 (fun u hu => by simp at hu)
  rw [h0] at hS ⊢
  exact run_append_nothing w t t' tr e inf ht hi A l.len cap hcap _ hS

/-- A slice without room: nothing, or a new row. -/
theorem append_full {γ : Gh} {H : Hp} {w : World} (hI : Inv γ H w) {t t' tr e e' : TypeId} {inf : TypeInfo} {z : Value} (ht : P.underlying t = some (.slice e)) (ht' : P.underlying t' = some (.slice e')) (hi : P.info? e = some inf) (hz : inf.zero = some z) (hzs : z.cells.size = inf.size)
    {l m r : L} {A : Option Addr} {xv : Value} (hl : RD γ.ok w (.sl l) (.slice A l.len l.len)) (hm : RD γ.ok w (.sl m) xv) (happ : L.app inf.size l m = some r) (hbytes : r.len * inf.bytes ≤ 140737488355328) (hb0 : 0 < inf.bytes) (T : Nat) :
    ∃ v' w' γ', (Builtin.append_ #[t, t'] tr #[.slice A l.len l.len, xv]).run P w = .ok v' w' ∧ Inv γ' H w' ∧ Ext no no γ w γ' w' ∧ Evo γ w γ' w' ∧ RA γ' w' (.app T r) v' := by
  obtain ⟨a1, a2, a3, a4, a5, a6⟩ := L.app_spec happ
  rcases Nat.eq_zero_or_pos m.len with h0 | h0
  · refine ⟨_, w, γ, append_none (γ := γ) (H := H) ht ht' hi (Nat.le_refl _) hm h0, hI, Ext.refl _ _, Evo.refl _ _, ?_⟩
    have hr := RD.congr (r := r) hl (by omega) (fun h => by rw [a2, a3 h]) a5
    have e : l.len = r.len := by omega
    rw [e] at hr ⊢
    exact .appF T r A hr
  · exact append_grow hI ht ht' hi hz hzs hl hm happ (by omega) hbytes hb0 T
end

section
variable {P : Program} {ty : TypeId → Option TI} (hty : ∀ t i, ty t = some i → tyOf P t = some i) {tb n0 : Nat} {γ0 γ : Gh} {w0 w : World} {o : Oper} {fr : Fr} {H : Hp} {a : Act} {K : AV → Fr → Hp → Prop}
theorem emp_gen {ok : Nat → Nat → Prop} {w : World} (s : Nat) : RD ok w (.sl (.gen s [])) (.slice none 0 0) := .emp _ none 0 rfl
include hty in
theorem op_append (s : St γ0 w0 n0 γ fr H a w) (args : Array Operand) (ts : Array TypeId) (ho : o.op = .call { callee := .builtin .append, args := args, argTypes := ts }) (h : opx P ty tb n0 o fr H K) : Done P γ0 w0 a w o K := by
  unfold opx at h; rw [ho] at h
  simp only at h
  split at h
  · rename_i sx x t t' harg hts
    obtain rfl : args = #[sx, x] := by rw [← Array.toArray_toList (xs := args), harg]
    obtain rfl : ts = #[t, t'] := by rw [← Array.toArray_toList (xs := ts), hts]
    have hx := eval_sound s.fr x
    have hs := eval_sound s.fr sx
    generalize hxv : a.eval x = xv at hx
    generalize hsv : a.eval sx = sv at hs
    have hexec : (execOp a.eval o).run P w = ((Builtin.append_ #[t, t'] o.type #[sv, xv]).run P w).andThen fun v w' => .ok (.value v) w' := by
      simp [execOp, ho, resolve, invoke, builtin, Sem.run_bind, hxv, hsv]
    split at h
    · rename_i e _ _ _ e' _ _ _ hti hti'
      obtain ⟨inf, z, d, h1, h2, h3, h4, h5, h6, h7, h8, h9⟩ := ty_parts (hty _ _ hti)
      obtain ⟨inf1, z1, d1, i1, i2, i3, i4, i5, i6, i7, i8, i9⟩ := ty_parts (hty _ _ hti')
      simp only at h7 i7
      obtain rfl := of_slice h7.symm
      obtain rfl := of_slice i7.symm
      split at h
      · rename_i ie m hei hm
        obtain ⟨inf', z', d', g1, g2, g3, g4, g5, g6, g7, g8, g9⟩ := ty_parts (hty _ _ hei)
        have hM := toL_sound hx hm
        have fin : ∀ {l r : L} {A : Option Addr}, sv = .slice A l.len l.len → RD γ.ok w (.sl l) (.slice A l.len l.len) → L.app ie.size l m = some r → r.len * ie.bytes ≤ 140737488355328 → 0 < ie.bytes →
            ∃ v' w' γ', (execOp a.eval o).run P w = .ok (.value v') w' ∧ Inv γ' H w' ∧ Ext no no γ w γ' w' ∧ Evo γ w γ' w' ∧ RA γ' w' (.app (tb + o.dst.getD 0) r) v' := by
          intro l r A hsv' hL happ hby hb0
          obtain ⟨v', w', γ', r1, r2, r3, r4, r5⟩ := append_full (P := P) (tr := o.type) s.inv h2 i2 g1 g3 (by rw [g4, g5]) hL hM (by rw [g5]; exact happ) (by rw [g6]; exact hby) (by rw [g6]; exact hb0) (tb + o.dst.getD 0)
          exact ⟨v', w', γ', by rw [hexec, hsv', r1]; rfl, r2, r3, r4, r5⟩
        split at h
        · rename_i he
          rw [he] at hs
          cases hs
          split at h
          · rename_i r happ
            obtain ⟨⟨l1, l2, l3⟩, hk⟩ := h
            obtain ⟨v', w', γ', r1, r2, r3, r4, r5⟩ := fin (l := .gen ie.size []) (A := none) rfl (emp_gen ie.size) happ l1 l3
            exact done_step s v' _ r1 r2 r3 r4 r5 hk
          · exact h.elim
        · rename_i l he
          rw [he] at hs
          cases hs with
          | full _ A hL =>
            split at h
            · rename_i r happ
              obtain ⟨⟨l1, l2, l3⟩, hk⟩ := h
              obtain ⟨v', w', γ', r1, r2, r3, r4, r5⟩ := fin rfl hL happ l1 l3
              exact done_step s v' _ r1 r2 r3 r4 r5 hk
            · exact h.elim
        · rename_i g l he
          rw [he] at hs
          split at h
          · rename_i r happ
            obtain ⟨⟨l1, l2, l3⟩, hk⟩ := h
            rw [seqA_eq, seqH_eq] at hk
            have fin2 : ∀ {v' w' γ'}, (execOp a.eval o).run P w = .ok (.value v') w' → Inv γ' H w' → Ext no no γ w γ' w' → Evo γ w γ' w' → RA γ' w' (.app (tb + o.dst.getD 0) r) v' → Done P γ0 w0 a w o K := fun r1 r2 r3 r4 r5 =>
              ⟨_, _, _, _, _, _, _, r1, .inl rfl, r2.weak _ _, (s.fr.mono r3 (cleans_no _)).weak _ _, r5, s.evo.trans s.own0 r4, hk⟩
            cases hs with
            | appF _ _ A hL =>
              obtain ⟨v', w', γ', r1, r2, r3, r4, r5⟩ := fin rfl hL happ l1 l3
              exact fin2 r1 r2 r3 r4 r5
            | app _ _ b cap cs eb hL hown hbl hcs hn hmx =>
              obtain ⟨a1, a2, a3, a4, a5, a6⟩ := L.app_spec happ
              rcases Nat.lt_or_ge cap r.len with hgr | hroom
              · obtain ⟨v', w', γ', r1, r2, r3, r4, r5⟩ := append_grow (P := P) (tr := o.type) s.inv h2 i2 g1 g3 (by rw [g4, g5]) hL hM (by rw [g5]; exact happ) hgr (by rw [g6]; exact l1) (by rw [g6]; exact l3) (tb + o.dst.getD 0)
                exact fin2 (by rw [hexec, r1]; rfl) r2 r3 r4 r5
              · -- in place
                have hls := a3 hn.1
                have hsz0 : ie.size = inf'.size := g5.symm
                obtain ⟨A1, cap1, olds, e1, _, b2, b3, b4, b5⟩ := hL.cells ie.size a3
                injection e1 with e1a _ e1c; subst e1c
                obtain ⟨A2, cap2, news, e2, c1, c2, c3, c4, c5⟩ := hM.cells ie.size a4
                subst e2
                have hone := news_one c2 c4 c5
                have hS := src_of (P := P) (c := cap2) i2 c2 c3 hone
                rw [hsz0] at hS
                have hnl : news.length = m.len * ie.size := c2
                have hfit : l.len * ie.size + news.length ≤ cs.size := by
                  rw [hnl, ← Nat.add_mul, ← a1, ← hls]
                  have h1 : r.len * l.size ≤ cap * l.size := Nat.mul_le_mul_right _ hroom
                  omega
                have hrun := run_append_room_src (P := P) w t t' o.type e inf' h2 g1 b 0 l.len cap (.slice A2 m.len cap2) m.len news hS (by rw [← a1]; exact hroom)
                  (fun j hj => by rw [cell_of_heap hbl, ← hsz0]; simp; omega) (fun j hj => frozen_of_heap hbl)
                rw [← hsz0, Nat.zero_add] at hrun
                obtain ⟨cs', d1, d2, d3, d4, d5, d6, d7, d8, d9⟩ := setCells_heap b news (l.len * ie.size) w cs hbl hfit
                have hI' := s.inv.weak (Go.Ab.one g) no
                obtain ⟨k1, k2, k3⟩ := step_extend (m := news.length) hI' (tb + o.dst.getD 0) (by rw [hls] at hown; exact hown) hbl d1 d2 d3 hfit d5 d6 d7 d8 d9 (cleanH_weak _ _ _)
                refine ⟨_, .slice (some ⟨b, 0, none⟩) (l.len + m.len) cap, w.setCells b (l.len * ie.size) news, _, .app (tb + o.dst.getD 0) r, weaks (Go.Ab.one g) no fr, weakH (Go.Ab.one g) no H, by rw [hexec, hrun]; rfl, .inl rfl, k1, (s.fr.weak _ _).mono k2 (weaks_clean _ _ _), ?_, s.evo.trans s.own0 k3, hk⟩
                rw [← a1]
                have hnlv : ∀ i, γ.live i ≠ some b := (s.inv.own b _ hown).2
                refine .app _ r b cap cs' eb ?_ ((withOwn_same γ b _).trans (by rw [hnl, ← Nat.add_mul, ← a1, a2])) d1 (by rw [a2, d2, ← hls]; exact hcs) ⟨by omega, hroom⟩ hmx
                refine RD.join (ok := γ.ok) (w := w) happ b2 c2 b4 c4 b5 c5 (fun x v hx' => hx'.mono k2.ok) hroom hmx (fun j hj => ⟨⟨hnlv, fun t l' ho' => ?_⟩, ?_⟩)
                · have ho' := (withOwn_same γ b _).symm.trans ho'
                  injection ho' with ho'; injection ho' with _ ho'
                  rw [List.length_append, b2] at hj; omega
                · rw [cell_of_heap d1, Nat.zero_add]
                  rcases Nat.lt_or_ge j olds.length with hjl | hjl
                  · rw [List.getElem_append_left hjl, d3 j (by rw [← b2]; exact hjl)]
                    rcases b3 with b3 | ⟨b', o', e3, b3⟩
                    · omega
                    · rw [← e1a] at e3; injection e3 with e3; injection e3 with e3 e4 _; subst e3; subst e4
                      have := (b3 j hjl).2
                      rw [cell_of_heap hbl, Nat.zero_add] at this
                      exact this
                  · rw [List.getElem_append_right hjl]
                    have := d4 (j - olds.length) (by rw [List.length_append] at hj; omega)
                    rw [← b2] at this
                    rw [show olds.length + (j - olds.length) = j by omega] at this
                    exact this
          · exact h.elim
        · exact h.elim
      · exact h.elim
    · exact h.elim
  · exact h.elim
end
end Go.Ab
