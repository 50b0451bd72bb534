/- The run over abstract states is sound: operations, part four. -/
import Derived.Test.YtkcoepeeamooiaaAb7
set_option linter.unusedVariables false
set_option linter.unusedSimpArgs false
namespace Go.Ab
open Go

section
variable {P : Program} {ty : TypeId → Option TI} (hty : ∀ t i, ty t = some i → tyOf P t = some i) {tb n0 : Nat} {γ0 γ : Gh} {w0 w : World} {o : Oper} {fr : Fr} {H : Hp} {a : Act} {K : AV → Fr → Hp → Prop}

theorem fold_sound (mx : Bool) (γ : Gh) (w : World) : ∀ (xs : List AV) (vs : List Value) (x : AV) (v : Value) (K : AV → Prop), foldx mx x xs K → RA γ w x v → (xs.length = vs.length ∧ ∀ i (h1 : i < xs.length) (h2 : i < vs.length), RA γ w xs[i] vs[i]) →
    ∃ r u, (vs.foldlM (if mx then Builtin.max2 else Builtin.min2) v).run P w = .ok u w ∧ RA γ w r u ∧ K r
  | [], [], x, v, K, h, hx, _ => by
    unfold foldx at h
    exact ⟨x, v, by simp, hx, h⟩
  | y :: xs, u :: vs, x, v, K, h, hx, hv => by
    unfold foldx at h
    split at h
    · rename_i hh; cases hh
    · rename_i k m k' n rest heq
      injection heq with heq1 heq2; subst heq1; subst heq2
      split at h
      · rename_i hk; subst hk
        have hy := hv.2 0 (by simp) (by simp)
        simp only [List.getElem_cons_zero] at hy
        cases hx with
        | d _ _ hx => cases hx; cases hy with
          | d _ _ hy =>
            cases hy
            obtain ⟨r, u', h1, h2, h3⟩ := fold_sound mx γ w xs vs _ (.int k (if mx then max m n else min m n)) _ h (.d _ _ (.int _ _)) ⟨by simpa using hv.1, fun i h1 h2 => by have := hv.2 (i + 1) (by simpa using h1) (by simpa using h2); simp only [List.getElem_cons_succ] at this; exact this⟩
            refine ⟨r, u', ?_, h2, h3⟩
            rw [List.foldlM_cons, Sem.run_bind]
            cases mx with
            | true =>
              have e : (if n > m then n else m) = max m n := by rw [Int.max_def]; split <;> split <;> omega
              simp only [if_true] at h1 ⊢
              simp only [Builtin.max2, Sem.run_pure, Result.andThen_ok, e]; exact h1
            | false =>
              have e : (if n < m then n else m) = min m n := by rw [Int.min_def]; split <;> split <;> omega
              simp only [Bool.false_eq_true, if_false] at h1 ⊢
              simp only [Builtin.min2, Sem.run_pure, Result.andThen_ok, e]; exact h1
      · exact h.elim
    · exact h.elim
  | [], _ :: _, _, _, _, _, _, h => by simp at h
  | _ :: _, [], _, _, _, _, _, h => by simp at h
theorem op_max (s : St γ0 w0 n0 γ fr H a w) (mx : Bool) (args : Array Operand) (ts : Array TypeId) (ho : o.op = .call { callee := .builtin (if mx then .max else .min), args := args, argTypes := ts }) (h : opx P ty tb n0 o fr H K) : Done P γ0 w0 a w o K := by
  have hv := evals_sound s.fr args
  have h' : match args.toList.map (aeval fr) with | x :: rest => foldx mx x rest fun r => K r fr H | [] => False := by
    cases mx <;> (unfold opx at h; rw [ho] at h; exact h)
  generalize hxs : args.toList.map (aeval fr) = xs at h' hv
  split at h'
  · rename_i x rest
    rcases hL : args.map a.eval with ⟨l⟩
    rw [hL] at hv
    cases l with
    | nil => simp [RAs] at hv
    | cons v vs' =>
      have h0 := hv.2 0 (by simp) (by simp)
      simp only [List.getElem_cons_zero] at h0
      obtain ⟨r, u, k1, k2, k3⟩ := fold_sound (P := P) mx γ w rest vs' x v _ h' (by simpa using h0) ⟨by simpa using hv.1, fun i h1 h2 => by have := hv.2 (i + 1) (by simpa using h1) (by simpa using h2); simpa using this⟩
      refine done_val s u r ?_ k2 k3
      cases mx with
      | true => simp only [if_true] at k1 ho; simp [execOp, ho, resolve, invoke, builtin, Sem.run_bind, Builtin.max_, hL, k1]
      | false => simp only [Bool.false_eq_true, if_false] at k1 ho; simp [execOp, ho, resolve, invoke, builtin, Sem.run_bind, Builtin.min_, hL, k1]
  · exact h'.elim

include hty in
theorem op_indexAddr (s : St γ0 w0 n0 γ fr H a w) (t : TypeId) (x ix : Operand) (ho : o.op = .indexAddr t x ix) (h : opx P ty tb n0 o fr H K) : Done P γ0 w0 a w o K := by
  unfold opx at h; rw [ho] at h
  simp only [lenL_eq] at h
  have hx := eval_sound s.fr x
  have hi := eval_sound s.fr ix
  generalize hxv : a.eval x = xv at hx
  generalize hiv : a.eval ix = iv at hi
  have fin : ∀ (b off : Nat) (r : AV), (Instr.indexAt t xv iv).run P w = .ok (.pointer (some ⟨b, off, none⟩)) w → RA γ w r (.pointer (some ⟨b, off, none⟩)) → K r fr H → Done P γ0 w0 a w o K := fun b off r h1 h2 h3 =>
    done_val s _ r (by simp [execOp, ho, hxv, hiv, h1]) h2 h3
  split at h
  · rename_i e _ _ _ id off sz n k i hti he hie
    rw [he] at hx; rw [hie] at hi
    obtain ⟨inf, z, d, h1, h2, h3, h4, h5, h6, h7, h8, h9⟩ := ty_parts (hty _ _ hti)
    simp only at h7
    obtain rfl := of_slice h7.symm
    split at h
    · rename_i ie hei
      obtain ⟨inf', z', d', g1, g2, g3, g4, g5, g6, g7, g8, g9⟩ := ty_parts (hty _ _ hei)
      obtain ⟨⟨l1, l2, l3⟩, hk⟩ := h
      cases hi with
      | d _ _ hi =>
        cases hi
        cases hx with
        | os _ _ _ _ b cap hl hn hm =>
          refine fin b (off + i.toNat * sz) _ ?_ (.ptr _ _ b hl) hk
          simp [Instr.indexAt, asIntOf, run_underlying h2, Go.sizeOf, typeInfo, g1, l2, l3, g5, l1, addr_add]
    · exact h.elim
  · rename_i e _ _ _ u k i hti hie hnos
    rw [hie] at hi
    obtain ⟨inf, z, d, h1, h2, h3, h4, h5, h6, h7, h8, h9⟩ := ty_parts (hty _ _ hti)
    simp only at h7
    obtain rfl := of_slice h7.symm
    split at h
    · rename_i ie l hei hul
      obtain ⟨inf', z', d', g1, g2, g3, g4, g5, g6, g7, g8, g9⟩ := ty_parts (hty _ _ hei)
      obtain ⟨⟨l1, l2, l3⟩, hk⟩ := h
      rw [seqD_eq] at hk
      have hL := toL_sound hx hul
      cases hi with
      | d _ _ hi =>
        cases hi
        have hlt : i.toNat < l.len := by omega
        cases hL with
        | emp _ A cap hl => omega
        | row _ b off cap f hc hm hz hone hcell hrd =>
          refine fin b (off + i.toNat * l.size) _ ?_ (.rp _ b _ (fun j => f i.toNat j) (fun j hj => hone _ _ hlt hj) (fun j hj => ?_) (fun j hj => hrd _ _ hlt hj)) hk
          · simp [Instr.indexAt, asIntOf, run_underlying h2, Go.sizeOf, typeInfo, g1, l2, l3, g5, l1, addr_add]
          · rw [hz _ hlt] at hj
            rw [Nat.add_assoc]; exact hcell _ _ hlt hj
    · exact h.elim
  · rename_i n e _ _ _ id off k i hti he hie
    rw [he] at hx; rw [hie] at hi
    obtain ⟨inf, z, d, h1, h2, h3, h4, h5, h6, h7, h8, h9⟩ := ty_parts (hty _ _ hti)
    simp only at h7
    obtain rfl := of_array h7.symm
    split at h
    · rename_i ie hei
      obtain ⟨inf', z', d', g1, g2, g3, g4, g5, g6, g7, g8, g9⟩ := ty_parts (hty _ _ hei)
      obtain ⟨⟨l2, l3⟩, hk⟩ := h
      cases hi with
      | d _ _ hi =>
        cases hi
        cases hx with
        | ptr _ _ b hl =>
          refine fin b (off + i.toNat * ie.size) _ ?_ (.ptr _ _ b hl) hk
          simp [Instr.indexAt, asIntOf, run_underlying h2, Instr.sureAddr, Go.sizeOf, typeInfo, g1, l2, l3, g5, addr_add]
    · exact h.elim
  · exact h.elim

/-! ### a part of a slice -/
def L.cut (l : L) (lo hi : Nat) : L :=
  match l with
  | .ints k xs => .ints k ((xs.take hi).drop lo)
  | .gen s xs => .gen s ((xs.take hi).drop lo)
theorem L.cut_len (l : L) (lo hi : Nat) (h : hi ≤ l.len) : (l.cut lo hi).len = hi - lo := by cases l <;> simp [L.cut, L.len] at * <;> omega
theorem L.cut_size (l : L) (lo hi : Nat) : (l.cut lo hi).size = l.size := by cases l <;> rfl
theorem L.cut_row (l : L) (lo hi i : Nat) (h : hi ≤ l.len) (hi' : i < hi - lo) : (l.cut lo hi).row i = l.row (lo + i) := by
  cases l <;> simp [L.cut, L.row, L.len] at *
  · rw [List.getElem?_take_of_lt (by omega)]
  · rw [List.getElem?_take_of_lt (by omega)]
theorem L.sub_cut (l : L) (lo hi : Option Nat) : ∃ lo' hi', l.sub lo hi = l.cut lo' hi' ∧ lo' = lo.getD 0 ∧ hi' = hi.getD l.len := by
  refine ⟨_, _, ?_, rfl, rfl⟩
  cases l <;> cases lo <;> cases hi <;> simp [L.sub, L.cut, L.len]
theorem RD.cut {ok : Nat → Nat → Prop} {w : World} {l : L} {A : Option Addr} {n cap lo hi m : Nat} (h : RD ok w (.sl l) (.slice A n cap)) (h1 : lo ≤ hi) (h2 : hi ≤ l.len) (hm : hi ≤ m) (hmc : m ≤ cap) :
    RD ok w (.sl (l.cut lo hi)) (.slice (if m = lo then A else A.map (·.add (lo * l.size))) (hi - lo) (m - lo)) := by
  have hlen := l.cut_len lo hi h2
  rcases Nat.eq_zero_or_pos (hi - lo) with h0 | h0
  · rw [h0]; exact .emp _ _ _ (by rw [hlen, h0])
  · rw [if_neg (by omega)]
    cases h with
    | emp _ A cap hl => omega
    | row _ b o cap f hc hmx hz hone hcell hrd =>
      have := RD.row (ok := ok) (w := w) (l.cut lo hi) b (o + lo * l.size) (m - lo) (fun i j => f (lo + i) j) (by rw [hlen]; omega) (by omega)
        (fun i hi' => by rw [hlen] at hi'; rw [l.cut_row lo hi i h2 hi', l.cut_size]; exact hz _ (by omega))
        (fun i j hi' hj => by
          rw [hlen] at hi'
          have e := l.cut_row lo hi i h2 hi'
          have hj' : j < (l.row (lo + i)).length := by rw [← e]; exact hj
          have := hone (lo + i) j (by omega) hj'
          simpa [e] using this)
        (fun i j hi' hj => by
          rw [hlen] at hi'; rw [l.cut_size] at hj ⊢
          have := hcell (lo + i) j (by omega) hj
          rw [Nat.add_mul] at this
          have e : o + lo * l.size + (i * l.size + j) = o + (lo * l.size + i * l.size + j) := by omega
          rw [e]; exact this)
        (fun i j hi' hj => by
          rw [hlen] at hi'
          have e := l.cut_row lo hi i h2 hi'
          have hj' : j < (l.row (lo + i)).length := by rw [← e]; exact hj
          have := hrd (lo + i) j (by omega) hj'
          simpa [e] using this)
      rw [hlen] at this
      simpa [addr_add] using this
theorem RD.slice_shape {ok : Nat → Nat → Prop} {w : World} {l : L} {v : Value} (h : RD ok w (.sl l) v) : ∃ A cap, v = .slice A l.len cap ∧ l.len ≤ cap := by
  cases h with
  | emp l A cap hl => exact ⟨A, cap, by rw [hl], by omega⟩
  | row l b o cap f hc => exact ⟨_, cap, rfl, hc⟩
theorem run_bound {k : IntKind} {i : Int} {y : Nat} (h0 : 0 ≤ i) (h1 : i ≤ y) (code : BoundsCode) (w : World) : (Instr.sliceBound (.int k i) y code).run P w = .ok i.toNat w := by
  simp [Instr.sliceBound, asIntOf, h0, h1]
/-- The bounds of a slice expression, as the model runs them. -/
theorem bounds_sound {γ : Gh} {w : World} {n cap : Nat} (hn : n ≤ cap) {lo hi : Option AV} {vlo vhi : Option Value} {K : Option Nat → Option Nat → Prop} (h : bounds n lo hi K)
    (hlo : ∀ x, lo = some x → ∃ v, vlo = some v ∧ RA γ w x v) (hlo' : lo = none → vlo = none) (hhi : ∀ x, hi = some x → ∃ v, vhi = some v ∧ RA γ w x v) (hhi' : hi = none → vhi = none) :
    ∃ p q, K p q ∧ (Instr.sliceBounds true n cap vlo vhi none).run P w = .ok (p.getD 0, q.getD n, cap) w ∧ p.getD 0 ≤ q.getD n ∧ q.getD n ≤ n ∧
      (∀ b k, hi = some (.d (.int k b)) → ∀ c k', c = b → (Instr.sliceBounds true n cap vlo vhi (some (.int k' c))).run P w = .ok (p.getD 0, q.getD n, q.getD n) w) := by
  unfold bounds at h
  have int_of : ∀ {k : IntKind} {m : Int} {v : Value}, RA γ w (.d (.int k m)) v → v = .int k m := fun hv => by
    cases hv with
    | d _ _ hv => cases hv; rfl
  split at h
  · rw [hlo' rfl, hhi' rfl]
    exact ⟨none, none, h, by simp [Instr.sliceBounds], by simp, by simp, fun b k hh => by cases hh⟩
  · obtain ⟨v, e1, e2⟩ := hlo _ rfl
    rw [e1, hhi' rfl, int_of e2]
    exact ⟨_, none, h.2, by simp [Instr.sliceBounds, run_bound h.1.1 h.1.2], by simp; omega, by simp, fun b k hh => by cases hh⟩
  · obtain ⟨v, e1, e2⟩ := hhi _ rfl
    rename_i k0 b0
    rw [hlo' rfl, e1, int_of e2]
    refine ⟨none, _, h.2, by simp [Instr.sliceBounds, run_bound h.1.1 (show b0 ≤ (cap : Int) by omega)], by simp, by simp; omega, fun b k hh c k' hc => ?_⟩
    injection hh with hh; injection hh with hh; injection hh with _ hh; subst hh; subst hc
    simp [Instr.sliceBounds, run_bound h.1.1 (show c ≤ (cap : Int) by omega), run_bound h.1.1 (show c ≤ ((c.toNat : Nat) : Int) by omega)]
  · obtain ⟨v, e1, e2⟩ := hlo _ rfl
    obtain ⟨v', e1', e2'⟩ := hhi _ rfl
    rename_i k1 a0 k0 b0
    rw [e1, e1', int_of e2, int_of e2']
    obtain ⟨⟨c0, c1, c2⟩, hk⟩ := h
    have l1 : a0 ≤ ((b0.toNat : Nat) : Int) := by omega
    refine ⟨_, _, hk, by simp [Instr.sliceBounds, run_bound (show 0 ≤ b0 by omega) (show b0 ≤ (cap : Int) by omega), run_bound c0 l1], by simp; omega, by simp; omega, fun b k hh c k' hc => ?_⟩
    injection hh with hh; injection hh with hh; injection hh with _ hh; subst hh; subst hc
    simp [Instr.sliceBounds, run_bound (show 0 ≤ c by omega) (show c ≤ (cap : Int) by omega), run_bound (show 0 ≤ c by omega) (show c ≤ ((c.toNat : Nat) : Int) by omega), run_bound c0 l1]
  · exact h.elim
theorem opt_eval {γ : Gh} {w : World} {fr : Fr} {a : Act} (hf : RAs γ w fr a.tmps) (x : Option Operand) : (∀ y, x.map (aeval fr) = some y → ∃ v, x.map a.eval = some v ∧ RA γ w y v) ∧ (x.map (aeval fr) = none → x.map a.eval = none) := by
  cases x with
  | none => exact ⟨fun y h => by simp at h, fun _ => rfl⟩
  | some x => exact ⟨fun y h => by simp at h; subst h; exact ⟨_, rfl, eval_sound hf x⟩, fun h => by simp at h⟩
include hty in
theorem op_slice_sl (s : St γ0 w0 n0 γ fr H a w) (t : TypeId) (x : Operand) (lo hi mx : Option Operand) (ho : o.op = .slice t x lo hi mx) (i : TI) (e : TypeId) (hti : ty t = some i) (hik : i.k = .slice e) (h : opx P ty tb n0 o fr H K) : Done P γ0 w0 a w o K := by
  unfold opx at h; rw [ho] at h
  simp only [hti] at h
  unfold slicex at h
  simp only [lenL_eq] at h
  rw [hik] at h
  simp only at h
  have hx := eval_sound s.fr x
  generalize hxv : a.eval x = xv at hx
  obtain ⟨inf, z, d, h1, h2, h3, h4, h5, h6, h7, h8, h9⟩ := ty_parts (hty _ _ hti)
  rw [hik] at h7
  obtain rfl := of_slice h7.symm
  split at h
  · rename_i ie l hei hl
    obtain ⟨hsz, hb⟩ := h
    obtain ⟨inf', z', d', g1, g2, g3, g4, g5, g6, g7, g8, g9⟩ := ty_parts (hty _ _ hei)
    have hL := toL_sound hx hl
    obtain ⟨A, cap, rfl, hcap⟩ := hL.slice_shape
    have main : ∀ (p q m : Nat), (Instr.sliceBounds true l.len cap (lo.map a.eval) (hi.map a.eval) (mx.map a.eval)).run P w = .ok (p, q, m) w →
        (execOp a.eval o).run P w = .ok (.value (.slice (if m = p then A else A.map (·.add (p * l.size))) (q - p) (m - p))) w := by
      intro p q m hb
      simp only [execOp, ho, hxv, Instr.sliceAt, Instr.slice, Sem.run_bind, run_underlying h2, Result.andThen_ok, hb]
      simp [Go.sizeOf, typeInfo, g1, g5, hsz]
    obtain ⟨lo1, lo2⟩ := opt_eval s.fr lo
    obtain ⟨hi1, hi2⟩ := opt_eval s.fr hi
    obtain ⟨mx1, mx2⟩ := opt_eval s.fr mx
    split at hb
    · rename_i hmx
      have hmn := mx2 hmx
      rw [hmn] at main
      obtain ⟨p, q, hk, r1, r2, r3, _⟩ := bounds_sound (P := P) hcap hb lo1 lo2 hi1 hi2
      rw [forceL_eq] at hk
      obtain ⟨p', q', e1, rfl, rfl⟩ := l.sub_cut p q
      rw [e1] at hk
      exact done_val s _ _ (main _ _ _ r1) (.d _ _ (RD.cut hL r2 r3 (by omega) (Nat.le_refl _))) hk
    · rename_i k c hmx
      obtain ⟨v, m1, m2⟩ := mx1 _ hmx
      rw [m1] at main
      have hv : v = .int k c := by
        cases m2 with
        | d _ _ m2 => cases m2; rfl
      subst hv
      split at hb
      · rename_i kb b hhi
        obtain ⟨hbc, hb⟩ := hb
        rw [hhi] at hi1 hi2
        obtain ⟨p, q, hk, r1, r2, r3, r4⟩ := bounds_sound (P := P) hcap hb lo1 lo2 hi1 hi2
        rw [forceL_eq] at hk
        obtain ⟨p', q', e1, rfl, rfl⟩ := l.sub_cut p q
        rw [e1] at hk
        have hc := RD.cut hL r2 r3 (Nat.le_refl (q.getD l.len)) (by omega)
        have hlen := l.cut_len (p.getD 0) (q.getD l.len) r3
        rw [← hlen] at hc
        have hf := RA.full (γ := γ) _ _ hc
        rw [hlen] at hf
        exact done_val s _ _ (main _ _ _ (r4 b kb rfl c k hbc.symm)) hf hk
      · exact hb.elim
    · exact hb.elim
  · exact h.elim
end
end Go.Ab
