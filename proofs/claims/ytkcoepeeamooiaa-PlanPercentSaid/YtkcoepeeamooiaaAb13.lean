/- The run over abstract states is sound: code, functions. -/
import Derived.Test.YtkcoepeeamooiaaAb12
set_option linter.unusedVariables false
set_option linter.unusedSimpArgs false
namespace Go.Ab
open Go Classical

theorem LE.sound {γ : Gh} {w : World} {a b : AV} (h : LE a b) : ∀ {v : Value}, RA γ w a v → RA γ w b v := by
  induction h with
  | refl a => exact fun h => h
  | top a => exact fun _ => .top _
  | nil_d l h0 => intro v h; cases h; exact .d _ _ (.emp l none 0 h0)
  | nil_full l h0 => intro v h; cases h; have := RA.full (γ := γ) (w := w) l none (by rw [h0]; exact .emp l none 0 h0); rw [h0] at this; exact this
  | nil_app g l h0 => intro v h; cases h; have := RA.appF (γ := γ) (w := w) g l none (by rw [h0]; exact .emp l none 0 h0); rw [h0] at this; exact this
  | full_d l => intro v h; cases h with | full _ A h => exact .d _ _ h
  | full_app g l => intro v h; cases h with | full _ A h => exact .appF g l A h
  | app_d g l => intro v h; cases h with
    | appF _ _ A h => exact .d _ _ h
    | app _ _ b cap cs e h => exact .d _ _ h
  | emp l l' h h' =>
    intro v hv
    cases hv with
    | d _ _ hv =>
      obtain ⟨A, cap, rfl, _⟩ := hv.slice_shape
      rw [h]; exact .d _ _ (.emp l' A cap h')
  | agg_d cs ds hl _ ih =>
    intro v h
    cases h with
    | agg _ vs hl' h =>
      refine .d _ _ (.agg ds vs (by omega) fun i h1 h2 => ?_)
      have := ih i (by omega) h1 (h i (by omega) h2)
      cases this with
      | d _ _ this => exact this
  | d_agg ds =>
    intro v h
    cases h with
    | d _ _ h => cases h with
      | agg _ vs hl h => exact .agg _ vs (by simpa using hl) fun i h1 h2 => by simp only [List.getElem_map]; exact .d _ _ (h i (by simpa using h1) h2)
  | agg cs ds hl _ ih => intro v h; cases h with | agg _ vs hl' h => exact .agg ds vs (by omega) fun i h1 h2 => ih i (by omega) h1 (h i (by omega) h2)
  | tup cs ds hl _ ih => intro v h; cases h with | tup _ vs hl' h => exact .tup ds vs (by omega) fun i h1 h2 => ih i (by omega) h1 (h i (by omega) h2)
  | trans _ _ ih1 ih2 => exact fun h => ih2 (ih1 h)
theorem LEs.sound {γ : Gh} {w : World} {as bs : List AV} {vs : Array Value} (h : LEs as bs) (hr : RAs γ w as vs) : RAs γ w bs vs :=
  ⟨by rw [← h.1]; exact hr.1, fun i h1 h2 => (h.2 i (by rw [h.1]; exact h1) h1).sound (hr.2 i (by rw [h.1]; exact h1) h2)⟩

/-- The ghost state without what is gone. -/
noncomputable def Gh.keepOnly (γ : Gh) (H : Hp) : Gh := { γ with live := fun i => if gone H i = true then none else γ.live i }
theorem HLE.at_ {H H' : Hp} (h : HLE H H') : ∀ (i : Nat) (B' : Blk), H'[i]? = some (some B') → ∃ B : Blk, H[i]? = some (some B) ∧ B.ty = B'.ty ∧ LEs B.cells B'.cells := by
  induction h with
  | nil H => intro i B' h; simp at h
  | dead x H H' _ ih =>
    intro i B' h
    cases i with
    | zero => simp at h
    | succ i => exact ih i B' (by simpa using h)
  | blk B B1 H H' ht hc _ ih =>
    intro i B' h
    cases i with
    | zero => simp at h; subst h; exact ⟨B, rfl, ht, hc⟩
    | succ i => exact ih i B' (by simpa using h)
theorem cleanHB_at {tg rf : Nat → Bool} : ∀ {H : Hp} (h : cleanHB tg rf H = true), cleanH tg rf H
  | [], _ => fun k B hB => by simp at hB
  | none :: H, h => fun k B hB => by
    cases k with
    | zero => simp at hB
    | succ k => exact cleanHB_at (H := H) (by simpa [cleanHB] using h) k B (by simpa using hB)
  | some C :: H, h => fun k B hB => by
    simp only [cleanHB, Bool.and_eq_true] at h
    cases k with
    | zero => simp at hB; subst hB; exact h.1
    | succ k => exact cleanHB_at h.2 k B (by simpa using hB)
theorem weak_sound {n0 : Nat} {γ0 γ : Gh} {w0 w : World} {fr fr' : Fr} {H H' : Hp} {tm : Array Value} (hn0 : ∀ i b, γ0.live i = some b → i < n0) (h : Weak n0 fr H fr' H') (hI : Inv γ H w) (hF : RAs γ w fr tm) (hE : Evo γ0 w0 γ w) :
    ∃ γ', Inv γ' H' w ∧ RAs γ' w fr' tm ∧ Evo γ0 w0 γ' w := by
  obtain ⟨hle, hh⟩ := h
  have hF' := hle.sound hF
  rcases hh with rfl | ⟨hH, hc1, hc2, hk⟩
  · exact ⟨γ, hI, hF', hE⟩
  · have hx : Ext no (gone H') γ w (γ.keepOnly H') w := by
      refine ⟨fun b j v h1 h2 => ⟨⟨fun k hk => ?_, h1.2⟩, h2⟩, fun k b hr hk => ?_, fun b g l cs e _ h1 h2 => ⟨h1, cs, h2, rfl⟩⟩
      · simp only [Gh.keepOnly] at hk; split at hk
        · cases hk
        · exact h1.1 k hk
      · simp only [Gh.keepOnly]; rw [if_neg (by simp [hr])]; exact hk
    have hcH := cleanHB_at hc2
    refine ⟨γ.keepOnly H', ⟨fun i b hi => ?_, fun i B' hB' => ?_, fun i j b hi hj => ?_, fun b x hb => ⟨(hI.own b x hb).1, fun i hi => ?_⟩, hI.tag⟩, hF'.mono hx hc1, ⟨hE.os, hE.tape, hE.output, hE.size, hE.same, hE.tip, fun i b hi => ?_, fun i b hi => ?_, hE.nown⟩⟩
    · simp only [Gh.keepOnly] at hi; split at hi
      · cases hi
      · rename_i hg
        unfold gone at hg
        split at hg
        · rename_i B hB; exact ⟨B, hB⟩
        · exact absurd rfl hg
    · obtain ⟨B, hB, ht, hc⟩ := hH.at_ i B' hB'
      obtain ⟨b, cs, h1, h2, h3, h4⟩ := hI.blk i B hB
      have hcells := hc.sound (γ := γ) (w := w) (vs := cs) ⟨h3, h4⟩
      refine ⟨b, cs, ?_, by rw [← ht]; exact h2, hcells.1, fun j j1 j2 => (hcells.2 j j1 j2).mono hx (cleans_at (hcH i B' hB') j j1)⟩
      simp only [Gh.keepOnly]
      rw [if_neg (by simp [gone, hB'])]; exact h1
    · simp only [Gh.keepOnly] at hi hj
      split at hi
      · cases hi
      · split at hj
        · cases hj
        · exact hI.inj i j b hi hj
    · simp only [Gh.keepOnly] at hi; split at hi
      · cases hi
      · exact (hI.own b x hb).2 i hi
    · have hl := hE.live i b hi
      simp only [Gh.keepOnly]
      rw [if_neg]; · exact hl
      intro hg
      have := hk i (hn0 i b hi) hg
      obtain ⟨B, hB⟩ := hI.dom i b hl
      simp [gone, hB] at this
    · simp only [Gh.keepOnly] at hi; split at hi
      · cases hi
      · exact hE.new i b hi

section
variable {P : Program} {ty : TypeId → Option TI} (hty : ∀ t i, ty t = some i → tyOf P t = some i) {tb n0 : Nat} {γ0 γ : Gh} {w0 w : World} {o : Oper} {fr : Fr} {H : Hp} {a : Act} {K : AV → Fr → Hp → Prop}

theorem put_sound {γ : Gh} {w : World} {fr : Fr} {a : Act} (hf : RAs γ w fr a.tmps) (dst : Option Tmp) {r : AV} {v : Value} (hr : RA γ w r v) : RAs γ w (match dst with | some t => fr.set t r | none => fr) (a.put dst v).tmps := by
  cases dst with
  | none => exact hf
  | some t =>
    refine ⟨by simp [Act.put, hf.1], fun i h1 h2 => ?_⟩
    simp only [Act.put] at h2 ⊢
    by_cases e : t = i
    · subst e; simp only [List.getElem_set_self]; rw [Array.getElem_setIfInBounds_self]; exact hr
    · have h2' : i < a.tmps.size := by simpa using h2
      simp only [List.getElem_set_ne e]; rw [Array.getElem_setIfInBounds_ne h2' e]; exact hf.2 i (by simpa using h1) h2'
theorem putx_eq (fr : Fr) (dst : Option Tmp) (v : AV) (K : Fr → Prop) : putx fr dst v K = K (match dst with | some t => fr.set t v | none => fr) := by cases dst <;> simp [putx, setF_eq]
theorem put_defers (a : Act) (dst : Option Tmp) (v : Value) : (a.put dst v).defers = a.defers := by cases dst <;> rfl

include hty in
/-- An operation. -/
theorem op_sound (s : St γ0 w0 n0 γ fr H a w) (h : opx P ty tb n0 o fr H K) {next : Act → World → Prop} {Q : Exit → Act → World → Prop}
    (hK : ∀ γ' v r fr' H' w', K r fr' H' → Inv γ' H' w' → RAs γ' w' fr' a.tmps → RA γ' w' r v → Evo γ0 w0 γ' w' → next (a.put o.dst v) w') : o.wp P a w next Q := by
  have fin : Done P γ0 w0 a w o K → o.wp P a w next Q := by
    rintro ⟨res, v, w', γ', r, fr', H', h1, h2, h3, h4, h5, h6, h7⟩
    unfold Oper.wp
    rw [h1]
    rcases h2 with rfl | ⟨rfl, rfl⟩
    · exact hK γ' v r fr' H' w' h7 h3 h4 h5 h6
    · exact hK γ' undef r fr' H' w' h7 h3 h4 h5 h6
  cases ho : o.op with
  | move x => exact fin (op_move (P := P) (tb := tb) (ty := ty) s x (.inl ho) h)
  | assign x => exact fin (op_move (P := P) (tb := tb) (ty := ty) s x (.inr ho) h)
  | pick c x y => exact fin (op_pick (P := P) (tb := tb) (ty := ty) s c x y ho h)
  | alloc e => exact fin (op_alloc hty s e ho h)
  | box e x => exact fin (op_box (P := P) (tb := tb) (ty := ty) s e x ho h)
  | build t ps => exact fin (op_build hty s t ps ho h)
  | buildSlice t n ps => exact fin (op_buildSlice hty s t n ps ho h)
  | load t x => exact fin (op_load hty s t x ho h)
  | store t x v => exact fin (op_store hty s t x v ho h)
  | nilCheck x => exact fin (op_nilCheck (P := P) (tb := tb) (ty := ty) s x ho h)
  | binOp op t x y yt => exact fin (op_binOp hty s op t yt x y ho h)
  | unOp u t x => exact fin (op_unOp (P := P) (tb := tb) (ty := ty) s u t x ho h)
  | convert t' t x => exact fin (op_convert hty s t' t x ho h)
  | makeFunc fn first caps =>
    cases fn with
    | func f => exact fin (op_makeFunc (P := P) (tb := tb) (ty := ty) s f first caps ho h)
    | _ => unfold opx at h; rw [ho] at h; exact h.elim
  | fieldAddr t x f => exact fin (op_fieldAddr hty s t x f ho h)
  | indexAddr t x ix => exact fin (op_indexAddr hty s t x ix ho h)
  | slice t x lo hi mx =>
    have h' := h
    unfold opx at h'; rw [ho] at h'
    simp only at h'
    split at h'
    · rename_i i hi'
      have h'' := h'
      unfold slicex at h''
      split at h''
      · rename_i n e hik; exact fin (op_slice_arr hty s t x lo hi mx ho i n e hi' hik h)
      · rename_i e hik; exact fin (op_slice_sl hty s t x lo hi mx ho i e hi' hik h)
      · exact h''.elim
    · exact h'.elim
  | extract x i => exact fin (op_extract (P := P) (tb := tb) (ty := ty) s x i ho h)
  | call c =>
    obtain ⟨callee, args, ts⟩ := c
    cases callee with
    | builtin b =>
      cases b with
      | len => exact fin (op_len hty s args ts ho h)
      | append => exact fin (op_append hty s args ts ho h)
      | max => exact fin (op_max (P := P) (tb := tb) (ty := ty) s true args ts ho h)
      | min => exact fin (op_max (P := P) (tb := tb) (ty := ty) s false args ts ho h)
      | _ => unfold opx at h; rw [ho] at h; exact h.elim
    | invoke r n => unfold opx at h; rw [ho] at h; exact h.elim
    | value f =>
      unfold opx at h; rw [ho] at h
      simp only at h
      have hf := eval_sound s.fr f
      split at h
      · rename_i g caps he
        obtain ⟨hen, hc⟩ := h
        rw [seqA_eq] at hc
        rw [he] at hf
        generalize hfv : a.eval f = fv at hf
        cases hf with
        | fn _ _ vs hl hh =>
          have hargs := evals_sound s.fr args
          have hall : RAs γ w (args.toList.map (aeval fr) ++ caps) (args.map a.eval ++ vs) := by
            refine ⟨by simp [hl], fun i h1 h2 => ?_⟩
            rcases Nat.lt_or_ge i args.size with hi | hi
            · rw [List.getElem_append_left (by simpa using hi), Array.getElem_append_left (by simpa using hi)]
              exact hargs.2 i _ _
            · rw [List.getElem_append_right (by simpa using hi), Array.getElem_append_right (by simpa using hi)]
              simp only [List.length_map, Array.length_toList, Array.size_map]
              exact hh _ _ _
          have hrun : (execOp a.eval o).run P w = .ok (.enter g (args.map a.eval ++ vs)) w := by
            unfold entry at hen
            split at hen
            · rename_i fn hfn
              simp only [Bool.and_eq_true, bne_iff_ne, ne_eq] at hen
              obtain ⟨bd, hbd⟩ := Option.isSome_iff_exists.1 hen.1
              simp [execOp, ho, resolve, hfv, Deferred.ofValue, invoke, callFunc, hfn, hen.2, hbd]
            · cases hen
          unfold Oper.wp
          rw [hrun, Oper.upon_enter]
          refine (hc γ w _ a.tmps s.inv hall s.fr).mono fun e w' ⟨γ', r, v, fr', H', he', h1, h2, h3, h4, h5⟩ => ?_
          subst he'
          exact hK γ' v r fr' H' w' h5 h1 h3 h2 (s.evo.trans s.own0 h4)
      · exact h.elim
  | _ => unfold opx at h; rw [ho] at h; exact h.elim

theorem guard_sound {ops : Array Oper} {yes skip : Fr → Prop} (hf : RAs γ w fr a.tmps) (h : guardx ops o fr yes skip) :
    (Region.wanted o (yielded ops a.tmps) = true ∧ ∃ fr1, RAs γ w fr1 a.tmps ∧ yes fr1) ∨ (Region.wanted o (yielded ops a.tmps) = false ∧ ∃ fr1, RAs γ w fr1 a.tmps ∧ skip fr1) := by
  unfold guardx at h
  split at h
  · rename_i hg; exact .inl ⟨by simp [Region.wanted, hg], fr, hf, h⟩
  · rename_i j want hg
    split at h
    · rename_i t ht
      have hv := eval_sound hf (.tmp t)
      simp only [aeval, Act.eval] at hv
      split at h
      · rename_i b he
        rw [he] at hv
        generalize hvv : a.tmps.getD t undef = vv at hv
        cases hv with
        | d _ _ hv =>
          cases hv
          have hlt : t < a.tmps.size := by
            rcases Nat.lt_or_ge t a.tmps.size with hl | hl
            · exact hl
            · simp [Array.getD, Nat.not_lt.2 hl, undef] at hvv
          have hat : a.tmps[t]? = some (.bool b) := by
            rw [Array.getElem?_eq_getElem hlt]
            simp [Array.getD, hlt] at hvv
            rw [hvv]
          have hy : yielded ops a.tmps j = some b := by simp [yielded, ht, hat]
          have hset : RAs γ w (fr.set t (.d (.bool b))) a.tmps := by
            refine ⟨by simp [hf.1], fun i h1 h2 => ?_⟩
            by_cases e : t = i
            · subst e
              simp only [List.getElem_set_self]
              have : a.tmps[t] = .bool b := by rw [Array.getElem?_eq_getElem hlt] at hat; injection hat
              rw [this]; exact .d _ _ (.bool b)
            · simp only [List.getElem_set_ne e]; exact hf.2 i (by simpa using h1) h2
          have hw : Region.wanted o (yielded ops a.tmps) = (b == want) := by simp [Region.wanted, hg, hy]
          cases b <;> cases want <;> simp only [setF_eq] at h <;> rw [hw]
          · exact .inl ⟨rfl, _, hset, h⟩
          · exact .inr ⟨rfl, _, hset, h⟩
          · exact .inr ⟨rfl, _, hset, h⟩
          · exact .inl ⟨rfl, _, hset, h⟩
      · rename_i vs he
        rw [he] at hv
        have hy : yielded ops a.tmps j = none := by
          generalize hvv : a.tmps.getD t undef = vv at hv
          cases hv with
          | tup _ us hl hh =>
            rcases Nat.lt_or_ge t a.tmps.size with hl | hl
            · simp [Array.getD, hl] at hvv
              simp [yielded, ht, Array.getElem?_eq_getElem hl, hvv]
            · simp [yielded, ht, Array.getElem?_eq_none hl]
        exact .inr ⟨by simp [Region.wanted, hg, hy], fr, hf, h⟩
      · exact h.elim
    · rename_i ht
      have hy : yielded ops a.tmps j = none := by simp [yielded, ht]
      exact .inr ⟨by simp [Region.wanted, hg, hy], fr, hf, h⟩

/-- What is to hold behind code. -/
def Post (γ0 : Gh) (w0 : World) (n0 : Nat) (K : Exit → Fr → Hp → Prop) (e : Exit) (a : Act) (w : World) : Prop := ∃ γ fr H, St γ0 w0 n0 γ fr H a w ∧ K e fr H

end
end Go.Ab
