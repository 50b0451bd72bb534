/- The run over abstract states is sound: operations, part three. -/
import Derived.Test.YtkcoepeeamooiaaAb6
import Derived.ChangeKeysEq
import Derived.Laws.StructEq
set_option linter.unusedVariables false
set_option linter.unusedSimpArgs false
namespace Go.Ab
open Go

theorem intsOf_at {k : IntKind} : ∀ {cs : List AV} {xs : List Int}, intsOf k cs = some xs → cs.length = xs.length ∧ ∀ i (h1 : i < cs.length) (h2 : i < xs.length), cs[i] = .d (.int k xs[i])
  | [], xs, h => by simp [intsOf] at h; subst h; exact ⟨rfl, fun i h1 => by simp at h1⟩
  | c :: cs, xs, h => by
    unfold intsOf at h
    split at h
    · rename_i hh; cases hh
    · rename_i k' n cs' heq
      injection heq with h1 h2; subst h1; subst h2
      split at h
      · rename_i hk; subst hk
        obtain ⟨ys, hys, rfl⟩ := Option.map_eq_some_iff.1 h
        obtain ⟨e1, e2⟩ := intsOf_at hys
        refine ⟨by simp [e1], fun i j1 j2 => ?_⟩
        cases i with
        | zero => rfl
        | succ i => exact e2 i (by simpa using j1) (by simpa using j2)
      · cases h
    · cases h
theorem aggc_sound {γ : Gh} {w : World} {u : AV} {v : Value} (h : RA γ w u v) {cs : List AV} (hc : u.aggc? = some cs) : ∃ vs, v = .agg vs ∧ RAs γ w cs vs := by
  cases h with
  | d x v h =>
    cases h with
    | agg ds vs hl h =>
      simp [AV.aggc?] at hc; subst hc
      exact ⟨vs, rfl, by simpa using hl, fun i h1 h2 => by simp only [List.getElem_map]; exact .d _ _ (h i (by simpa using h1) h2)⟩
    | _ => simp [AV.aggc?] at hc
  | agg ds vs hl h => simp [AV.aggc?] at hc; subst hc; exact ⟨vs, rfl, hl, h⟩
  | _ => simp [AV.aggc?] at hc
theorem eqItems_ints {P : Program} {e : TypeId} {k : IntKind} (he : P.underlying e = some (.int k)) (hc : P.cellsOf e = 1) (d : Nat) {γ : Gh} {w : World} {cs ds : List AV} {a b : List Int} {xs ys : Array Value}
    (hx : RAs γ w cs xs) (hy : RAs γ w ds ys) (ha : intsOf k cs = some a) (hb : intsOf k ds = some b) (hab : a.length = b.length) : ∀ (m i : Nat), i + m = a.length → (Op.eqItems (d + 1) e (P.cellsOf e) xs ys (List.range' i m)).run P w = .ok (decide (a.drop i = b.drop i)) w
  | 0, i, hi => by
    rw [List.drop_eq_nil_of_le (by omega), List.drop_eq_nil_of_le (by omega)]
    simp [Op.eqItems]
  | m + 1, i, hi => by
    obtain ⟨l1, e1⟩ := intsOf_at ha
    obtain ⟨l2, e2⟩ := intsOf_at hb
    have hp : P.plainKey e = true := by simp [Program.plainKey, he]
    have gx : xs[i]? = some (.int k a[i]) := by
      have := hx.2 i (by omega) (by rw [← hx.1]; omega)
      rw [e1 i (by omega) (by omega)] at this
      have hlt : i < xs.size := by rw [← hx.1]; omega
      rw [Array.getElem?_eq_getElem hlt]
      generalize xs[i] = v at this ⊢
      cases this with | d _ _ this => cases this; rfl
    have gy : ys[i]? = some (.int k b[i]) := by
      have := hy.2 i (by omega) (by rw [← hy.1]; omega)
      rw [e2 i (by omega) (by omega)] at this
      have hlt : i < ys.size := by rw [← hy.1]; omega
      rw [Array.getElem?_eq_getElem hlt]
      generalize ys[i] = v at this ⊢
      cases this with | d _ _ this => cases this; rfl
    have ih := eqItems_ints he hc d hx hy ha hb hab m (i + 1) (by omega)
    have hii : i * P.cellsOf e = i := by rw [hc]; omega
    rw [List.range'_succ]
    simp only [Op.eqItems, Sem.run_bind, hii, run_part_plain w hp gx, run_part_plain w hp gy, run_equalIn_int w d e k k a[i] b[i] he, Result.andThen_ok]
    have da : a.drop i = a[i] :: a.drop (i + 1) := List.drop_eq_getElem_cons (by omega)
    have db : b.drop i = b[i] :: b.drop (i + 1) := List.drop_eq_getElem_cons (by omega)
    rw [da, db]
    rw [hc] at ih ⊢
    generalize a.drop (i + 1) = p at ih ⊢
    generalize b.drop (i + 1) = q at ih ⊢
    generalize a[i] = x
    generalize b[i] = y
    by_cases hq : x = y
    · simp [hq, ih]
    · simp [hq]
section
variable {P : Program} {ty : TypeId → Option TI} (hty : ∀ t i, ty t = some i → tyOf P t = some i) {tb n0 : Nat} {γ0 γ : Gh} {w0 w : World} {o : Oper} {fr : Fr} {H : Hp} {a : Act} {K : AV → Fr → Hp → Prop}

theorem guard_int (op : BinOp) (t : TypeId) (x y : Operand) (k k' : IntKind) (m n : Int) (w : World) : (eqGuard op t x y (.int k m) (.int k' n)).run P w = .ok () w := by
  cases op <;> simp [eqGuard]
theorem guard_str (op : BinOp) (t : TypeId) (x y : Operand) (m n : ByteArray) (w : World) : (eqGuard op t x y (.string m) (.string n)).run P w = .ok () w := by
  cases op <;> simp [eqGuard]
theorem guard_bool (op : BinOp) (t : TypeId) (x y : Operand) (m n : Bool) (w : World) : (eqGuard op t x y (.bool m) (.bool n)).run P w = .ok () w := by
  cases op <;> simp [eqGuard]
theorem guard_ptr (op : BinOp) (t : TypeId) (x y : Operand) (m n : Option Addr) (w : World) : (eqGuard op t x y (.pointer m) (.pointer n)).run P w = .ok () w := by
  cases op <;> simp [eqGuard]
theorem binx_int {op : BinOp} {t : TypeId} {k k' : IntKind} {m n : Int} {K : AV → Prop} (h : binx op (.d (.int k m)) (.d (.int k' n)) K) (γ : Gh) (w : World) : ∃ v r, (binOp op t (.int k m) (.int k' n)).run P w = .ok v w ∧ RA γ w r v ∧ K r := by
  unfold binx at h
  simp only at h
  split at h
  · obtain ⟨h0, hk⟩ := h
    exact ⟨_, _, by simp [binOp, Op.shift, show ¬ n < 0 by omega], .d _ _ (.int _ _), hk⟩
  · obtain ⟨h0, hk⟩ := h
    exact ⟨_, _, by simp [binOp, Op.shift, show ¬ n < 0 by omega], .d _ _ (.int _ _), hk⟩
  · split at h
    · rename_i hk'
      subst hk'
      split at h
      · exact ⟨_, _, by simp [binOp, Op.intArith], .d _ _ (.int _ _), h⟩
      · exact ⟨_, _, by simp [binOp, Op.intArith], .d _ _ (.int _ _), h⟩
      · exact ⟨_, _, by simp [binOp, Op.intArith], .d _ _ (.int _ _), h⟩
      · exact ⟨_, _, by simp [binOp, Op.intDiv, h.1], .d _ _ (.int _ _), h.2⟩
      · exact ⟨_, _, by simp [binOp, Op.intDiv, h.1], .d _ _ (.int _ _), h.2⟩
      · exact ⟨.int k (ibits .and k m n), _, by simp [binOp, Op.intBits, ibits], .d _ _ (.int _ _), h⟩
      · exact ⟨.int k (ibits .or k m n), _, by simp [binOp, Op.intBits, ibits], .d _ _ (.int _ _), h⟩
      · exact ⟨.int k (ibits .xor k m n), _, by simp [binOp, Op.intBits, ibits], .d _ _ (.int _ _), h⟩
      · exact ⟨.int k (ibits .andNot k m n), _, by simp [binOp, Op.intBits, ibits], .d _ _ (.int _ _), h⟩
      · exact ⟨.bool (decide (m = n)), _, by simp [binOp, Op.intCmp]; rfl, .d _ _ (.bool _), h⟩
      · exact ⟨.bool (!decide (m = n)), _, by simp [binOp, Op.intCmp]; rfl, .d _ _ (.bool _), h⟩
      · exact ⟨.bool (decide (m < n)), _, by simp [binOp, Op.intCmp], .d _ _ (.bool _), h⟩
      · exact ⟨.bool (decide (m ≤ n)), _, by simp [binOp, Op.intCmp], .d _ _ (.bool _), h⟩
      · exact ⟨.bool (decide (n < m)), _, by simp [binOp, Op.intCmp], .d _ _ (.bool _), h⟩
      · exact ⟨.bool (decide (n ≤ m)), _, by simp [binOp, Op.intCmp], .d _ _ (.bool _), h⟩
      · exact h.elim
    · exact h.elim
include hty in
theorem op_binOp (s : St γ0 w0 n0 γ fr H a w) (op : BinOp) (t yt : TypeId) (x y : Operand) (ho : o.op = .binOp op t x y yt) (h : opx P ty tb n0 o fr H K) : Done P γ0 w0 a w o K := by
  unfold opx at h; rw [ho] at h
  simp only at h
  unfold binv at h
  have hx := eval_sound s.fr x
  have hy := eval_sound s.fr y
  generalize hxv : a.eval x = xv at hx
  generalize hyv : a.eval y = yv at hy
  have fin : ∀ (v : Value) (r : AV), (eqGuard op t x y xv yv).run P w = .ok () w → (binOp op t xv yv).run P w = .ok v w → RA γ w r v → K r fr H → Done P γ0 w0 a w o K := fun v r h1 h2 h3 h4 =>
    done_val s v r (by simp [execOp, ho, hxv, hyv, Sem.run_bind, h1, h2]) h3 h4
  split at h
  · rename_i he he'
    rw [he] at hx; rw [he'] at hy
    cases hx with
    | d _ _ hx => cases hx; cases hy with
      | d _ _ hy =>
        cases hy
        obtain ⟨v, r, h1, h2, h3⟩ := binx_int (P := P) (t := t) h γ w
        exact fin v r (guard_int _ _ _ _ _ _ _ _ _) h1 h2 h3
  · rename_i he he'
    rw [he] at hx; rw [he'] at hy
    cases hx with
    | d _ _ hx => cases hx; cases hy with
      | d _ _ hy =>
        cases hy
        unfold binx at h
        simp only at h
        split at h
        · exact fin _ _ (guard_str _ _ _ _ _ _ _) (by simp [binOp, Op.stringOp]) (.d _ _ (.bool _)) h
        · exact fin _ _ (guard_str _ _ _ _ _ _ _) (by simp [binOp, Op.stringOp]) (.d _ _ (.bool _)) h
        · exact h.elim
  · have eq : ∀ {i : TI} {u v : AV} {K' : Bool → Prop}, ty t = some i → RA γ w u xv → RA γ w v yv → eqx i u v K' → ∃ b, (∀ op, (eqGuard op t x y xv yv).run P w = .ok () w) ∧ (binOp .eql t xv yv).run P w = .ok (.bool b) w ∧ (binOp .neq t xv yv).run P w = .ok (.bool !b) w ∧ K' b := by
      intro i u v K' hi hu hv hq
      obtain ⟨inf, z, d, h1, h2, h3, h4, h5, h6, h7, h8, h9⟩ := ty_parts (hty _ _ hi)
      unfold eqx at hq
      split at hq
      · rename_i hk
        rw [hk] at h7
        obtain rfl := of_bool h7.symm
        cases hu with
        | d _ _ hu => cases hu; cases hv with
          | d _ _ hv =>
            cases hv
            rename_i p q
            have e : (Op.equal t (.bool p) (.bool q)).run P w = .ok (p == q) w := by
              have : ∀ d, (Op.equalIn (d + 1) t (.bool p) (.bool q)).run P w = .ok (p == q) w := fun d => by simp [Op.equalIn, run_underlying h2]
              exact this 9999
            exact ⟨_, fun op => guard_bool _ _ _ _ _ _ _, by simp [binOp, Sem.run_bind, e], by simp [binOp, Sem.run_bind, e], hq⟩
      all_goals try (exact hq.elim)
      all_goals
        rename_i hk
        rw [hk] at h7
        obtain rfl := of_ptr h7.symm
        cases hu; cases hv
        have e1 : (Op.equal t (.pointer none) (.pointer none)).run P w = .ok true w := by
          have : ∀ d, (Op.equalIn (d + 1) t (.pointer none) (.pointer none)).run P w = .ok true w := fun d => by simp [Op.equalIn, run_underlying h2]
          exact this 9999
        have e2 : ∀ A : Addr, (Op.equal t (.pointer none) (.pointer (some A))).run P w = .ok false w := fun A => by
          have : ∀ d, (Op.equalIn (d + 1) t (.pointer none) (.pointer (some A))).run P w = .ok false w := fun d => by simp [Op.equalIn, run_underlying h2]
          exact this 9999
        have e3 : ∀ A : Addr, (Op.equal t (.pointer (some A)) (.pointer none)).run P w = .ok false w := fun A => by
          have : ∀ d, (Op.equalIn (d + 1) t (.pointer (some A)) (.pointer none)).run P w = .ok false w := fun d => by simp [Op.equalIn, run_underlying h2]
          exact this 9999
        refine ⟨_, fun op => guard_ptr _ _ _ _ _ _ _, ?_, ?_, hq⟩ <;> simp [binOp, Sem.run_bind, e1, e2, e3]
    have eqA : ∀ {i : TI} {n : Nat} {e : TypeId} {u v : AV} {K' : Bool → Prop}, ty t = some i → i.k = .array n e → RA γ w u xv → RA γ w v yv → eqa P t (ty e) n u v K' → ∃ b, (∀ op, (eqGuard op t x y xv yv).run P w = .ok () w) ∧ (binOp .eql t xv yv).run P w = .ok (.bool b) w ∧ (binOp .neq t xv yv).run P w = .ok (.bool !b) w ∧ K' b := by
      intro i n e u v K' hi hik hu hv hq
      obtain ⟨inf, z, d, h1, h2, h3, h4, h5, h6, h7, h8, h9⟩ := ty_parts (hty _ _ hi)
      rw [hik] at h7
      obtain rfl := of_array h7.symm
      unfold eqa at hq
      split at hq
      · rename_i k s _ _ hie
        obtain ⟨inf', z', d', g1, g2, g3, g4, g5, g6, g7, g8, g9⟩ := ty_parts (hty _ _ hie)
        obtain rfl := of_int g7.symm
        split at hq
        · rename_i cs ds hcs hds
          split at hq
          · rename_i a b ha hb
            obtain ⟨⟨q1, q2, q3, q4⟩, hk⟩ := hq
            obtain ⟨xs, rfl, hxs⟩ := aggc_sound hu hcs
            obtain ⟨ys, rfl, hys⟩ := aggc_sound hv hds
            have hce : P.cellsOf e = 1 := by simp [Program.cellsOf, g1, g5, q2]
            have e1 : (Op.equalIn 10000 t (.agg xs) (.agg ys)).run P w = .ok (decide (a = b)) w := by
              rw [show (10000 : Nat) = 9999 + 1 from rfl, run_equalIn_array w 9999 xs ys h2 g1, List.range_eq_range']
              simpa using eqItems_ints g2 hce 9998 hxs hys ha hb (by omega) n 0 (by omega)
            exact ⟨_, fun op => run_eqGuard_agg _ _ _ _ _ _ _ q1, by rw [run_eql_struct, e1]; rfl, by rw [run_neq_struct, e1]; rfl, hk⟩
          · exact hq.elim
        · exact hq.elim
      · exact hq.elim
    split at h
    · rename_i i n e z' s' hi
      obtain ⟨b, h2, h3, h3', h4⟩ := eqA hi rfl hx hy h
      exact fin (.bool b) _ (h2 _) h3 (.d _ _ (.bool _)) h4
    · rename_i i n e z' s' hi
      obtain ⟨b, h2, h3, h3', h4⟩ := eqA hi rfl hx hy h
      exact fin (.bool !b) _ (h2 _) h3' (.d _ _ (.bool _)) h4
    · rename_i i hi
      obtain ⟨b, h2, h3, h3', h4⟩ := eq hi hx hy h
      exact fin (.bool b) _ (h2 _) h3 (.d _ _ (.bool _)) h4
    · rename_i i hi
      obtain ⟨b, h2, h3, h3', h4⟩ := eq hi hx hy h
      exact fin (.bool !b) _ (h2 _) h3' (.d _ _ (.bool _)) h4
    · exact h.elim

include hty in
theorem op_len (s : St γ0 w0 n0 γ fr H a w) (args : Array Operand) (ts : Array TypeId) (ho : o.op = .call { callee := .builtin .len, args := args, argTypes := ts }) (h : opx P ty tb n0 o fr H K) : Done P γ0 w0 a w o K := by
  unfold opx at h; rw [ho] at h
  simp only at h
  split at h
  · rename_i x t hx0 ht0
    have hx := eval_sound s.fr x
    generalize hxv : a.eval x = xv at hx
    have hx1 : (args.map a.eval)[0]? = some xv := by rw [Array.getElem?_map, hx0]; simp [hxv]
    have fin : ∀ (n : Int), (Builtin.len_ ts o.type (args.map a.eval)).run P w = .ok (.int .i64 n) w → K (.d (.int .i64 n)) fr H → Done P γ0 w0 a w o K := fun n h1 h2 =>
      done_val s (.int .i64 n) _ (by simp [execOp, ho, resolve, invoke, builtin, Sem.run_bind, h1]) (.d _ _ (.int _ _)) h2
    split at h
    · rename_i hi
      obtain ⟨inf, z, d, h1, h2, h3, h4, h5, h6, h7, h8, h9⟩ := ty_parts (hty _ _ hi)
      simp only at h7
      obtain rfl := of_slice h7.symm
      have sl : ∀ A n c, xv = .slice A n c → (Builtin.len_ ts o.type (args.map a.eval)).run P w = .ok (.int .i64 n) w := fun A n c e => by
        subst e; simp [Builtin.len_, ht0, hx1, run_underlying h2, goInt]
      have rdl : ∀ {l : L} {v : Value}, RD γ.ok w (.sl l) v → ∃ A c, v = .slice A l.len c := fun hr => by
        cases hr with
        | emp l A cap hl => exact ⟨A, cap, by rw [hl]⟩
        | row l b o cap f => exact ⟨_, cap, rfl⟩
      unfold lenx at h
      simp only [lenL_eq] at h
      split at h
      · rename_i l he
        rw [he] at hx
        cases hx with
        | d _ _ hx => obtain ⟨A, c, rfl⟩ := rdl hx; exact fin _ (sl _ _ _ rfl) h
      · rename_i l he
        rw [he] at hx
        cases hx; exact fin _ (sl _ _ _ rfl) h
      · rename_i g l he
        rw [he] at hx
        cases hx with
        | appF => exact fin _ (sl _ _ _ rfl) h
        | app => exact fin _ (sl _ _ _ rfl) h
      · rename_i he
        rw [he] at hx
        cases hx; exact fin 0 (sl _ _ _ rfl) h
      · rename_i he
        rw [he] at hx
        cases hx; exact fin _ (sl _ _ _ rfl) h
      · exact h.elim
    · rename_i hi
      obtain ⟨inf, z, d, h1, h2, h3, h4, h5, h6, h7, h8, h9⟩ := ty_parts (hty _ _ hi)
      simp only at h7
      obtain rfl := of_array h7.symm
      exact fin _ (by simp [Builtin.len_, ht0, hx1, run_underlying h2, goInt]) h
    · exact h.elim
  · exact h.elim
end
end Go.Ab
